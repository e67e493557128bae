/- Texts of the second layer in one: Jn0 Jn1. -/
import Derived.Test.YtibedaeefnjjlaaGreatG32
import Derived.Test.YtibedaeefnjjlaaGreatG31
import Derived.Test.YtibedaeefnjjlaaGreatG33
set_option maxRecDepth 100000
set_option linter.unusedVariables false
set_option linter.unusedSimpArgs false
namespace Go.Proofs.YtibedaeefnjjlaaGreat
open Go.RowKit Go.Ab Go.Wd
theorem cfl_vsA {H : Nat → Option Blk} {ρ : Nat → Nat} {G : List Nat} {cs ds : List AV} : ∀ (vs : List Value) (_ : CfL H ρ G cs ds), CfL H ρ G (vsA vs ++ cs) (vsA vs ++ ds)
 | [], h => h
 | v :: vs, h => .cons _ _ _ _ (.r _) (cfl_vsA vs h)
theorem cfl_vsA0 {H : Nat → Option Blk} {ρ : Nat → Nat} {G : List Nat} (vs : List Value) : CfL H ρ G (vsA vs) (vsA vs) := by
 have := cfl_vsA (H := H) (ρ := ρ) (G := G) vs .nil
 rwa [List.append_nil] at this
theorem cfl_gw {H : Nat → Option Blk} {ρ : Nat → Nat} {G : List Nat} {ky : Int} {i j : Nat} {c : Cn} (e : ρ i = j) : CfL H ρ G (gwC ky (.ow j) c) (gwC ky (.ow i) c) := by
 subst e
 exact .cons _ _ _ _ (.r _) (cfl_vsA _ (.cons _ _ _ _ (.ow _) (cfl_vsA0 _)))
theorem cfl_gwr {H : Nat → Option Blk} {ρ : Nat → Nat} {G : List Nat} {ky : Int} {v : Value} {c : Cn} : CfL H ρ G (gwC ky (.r (.v v)) c) (gwC ky (.r (.v v)) c) :=
 .cons _ _ _ _ (.r _) (cfl_vsA _ (.cons _ _ _ _ (.r _) (cfl_vsA0 _)))
theorem unfrs_vsA : ∀ (vs : List Value) (cs : List AV) (k : Nat), AV.unfrs (vsA vs ++ cs) k = (vsA vs ++ (AV.unfrs cs k).1, (AV.unfrs cs k).2)
 | [], cs, k => rfl
 | v :: vs, cs, k => by
  show AV.unfrs (.r (.v v) :: (vsA vs ++ cs)) k = _
  rw [AV.unfrs]
  simp only [AV.unfr, List.length_nil, Nat.add_zero, List.nil_append]
  rw [unfrs_vsA vs cs k]
  rfl
theorem unfrs_vsA0 (vs : List Value) (k : Nat) : AV.unfrs (vsA vs) k = (vsA vs, []) := by
 have := unfrs_vsA vs [] k
 rw [List.append_nil] at this
 rw [this, AV.unfrs]; simp
theorem unfrs_gw (ky : Int) (s : AV) (c : Cn) (k : Nat) (h : (s.unfr k).2.length = (s.unfr k).2.length) : AV.unfrs (gwC ky s c) k = (gwC ky (s.unfr k).1 c, (s.unfr k).2) := by
 unfold gwC
 rw [AV.unfrs]
 simp only [AV.unfr, List.length_nil, Nat.add_zero, List.nil_append]
 rw [unfrs_vsA, AV.unfrs]
 simp only [unfrs_vsA0, List.append_nil]
theorem rens_vsA (j : Nat → Nat) : ∀ (vs : List Value) (cs : List AV), AV.rens j (vsA vs ++ cs) = vsA vs ++ AV.rens j cs
 | [], cs => rfl
 | v :: vs, cs => by
  show AV.rens j (.r (.v v) :: (vsA vs ++ cs)) = _
  rw [AV.rens, rens_vsA j vs cs]; rfl
theorem rens_vsA0 (j : Nat → Nat) (vs : List Value) : AV.rens j (vsA vs) = vsA vs := by
 have := rens_vsA j vs []
 rw [List.append_nil] at this
 rw [this, AV.rens, List.append_nil]
theorem rens_gw (j : Nat → Nat) (ky : Int) (s : AV) (c : Cn) : AV.rens j (gwC ky s c) = gwC ky (s.ren j) c := by
 unfold gwC
 rw [AV.rens, rens_vsA, AV.rens, rens_vsA0]; rfl
theorem idss_vsA (vs : List Value) (cs : List AV) : AV.idss (vsA vs ++ cs) = AV.idss cs := by
 induction vs with
 | nil => rfl
 | cons v vs ih => show AV.idss (.r (.v v) :: (vsA vs ++ cs)) = _; rw [AV.idss, ih]; rfl
theorem idss_vsA0 (vs : List Value) : AV.idss (vsA vs) = [] := by
 have := idss_vsA vs []
 rw [List.append_nil] at this
 rw [this]; rfl
theorem idss_gw (ky : Int) (s : AV) (c : Cn) : AV.idss (gwC ky s c) = s.ids := by
 unfold gwC
 rw [AV.idss, idss_vsA, AV.idss, idss_vsA0, List.append_nil]; rfl
section
variable {P : Program} {L : Ln} {N : Nat} {ops : Array Oper} {chk : List (Nat × Sp) → Bool} {Q : St → Prop} {l : List Oper} {E : List (Nat × AV)} {H : List (Nat × Option Blk)} {n : Nat} {tr : List (Nat × Sp)}
variable {d : Nat} {ty : TypeId} {pos : String} {af : Array Edge} {g : Option (Nat × Bool)}
theorem w_callX' {f : FuncId} {xs : Array Operand} {ats : Array TypeId} {ds : List AV} {r : AV} (J : List Nat) (pre : List Blk) (post : List (Option Blk)) (pre' : List Blk) (UP : List (Option Blk)) (UB : List Blk) (PX : List (Option Blk)) (hm : MeetsX P f ds pre r post) (hr : r.unfr n = (r, [])) (hu : unfrP post n = (UP, UB)) (hpx : UP.map (Option.map (Blk.ren (jren J))) = PX)
  (hargs : CfL (getH H) (fun i => J.getD i 0) [] (xs.toList.map (evA (get E))) ds) (hf : callB P f = true)
  (hH : ∀ i b, (i, b) ∈ rdOf J pre' → getH H i = some b) (hcf : CfBs (getH H) (fun i => J.getD i 0) pre' pre) (hpre : preX J n UB.length pre post UP ds L = true) (hrng : rngB r n UB.length = true)
  (hd : Nat.blt d N = true) (hg : Wanted ops (get E) ⟨some d, .call { callee := .value (.func f), args := xs, argTypes := ats }, ty, pos, af, g⟩ true)
  (h : wpA P L N ops chk Q l ⟨(d, r) :: E, frsL n UB ++ (pairs J PX ++ H), n + UB.length⟩ ((n, ⟨true, rdOf J pre', r, pairs J PX, UB⟩) :: tr)) :
  wpA P L N ops chk Q (⟨some d, .call { callee := .value (.func f), args := xs, argTypes := ats }, ty, pos, af, g⟩ :: l) ⟨E, H, n⟩ tr := by
 have e0 : unfrP post (n + (r.unfr n).2.length) = (UP, UB) := by rw [hr]; exact hu
 have e1 : frsX n r post = UB := by unfold frsX; rw [e0, hr]; rfl
 have e2 : postX J n r post = PX := by unfold postX; rw [e0]; exact hpx
 refine w_callX J pre post pre' hm hargs hf hH hcf (by rw [e1, e0]; exact hpre) (by rw [e1, hr]; exact hrng) hd hg ?_
 rw [e1, e2, hr]
 exact h
theorem w_takeY {a b : Operand} {ats : Array TypeId} {es : List (List RV)} {ky : Int} {st : List Int} {c c' : Cn} {x : Pc} (hst : st.length ≤ 1000000) (hc : c.ok) (hx : x.c.ok) (hm : meetC c x.c = some c') (hk : ky = x.ky)
  (hE1 : evA (get E) a = .pe 0 33 es.length 0) (hE2 : evA (get E) b = pcA x) (hH0 : getH H 0 = some (.rowo 87 33 es (gwC ky (.ow 2) c))) (hH2 : getH H 2 = some (.row 3 1 (nums .i64 st)))
  (hd : Nat.blt d N = true) (hg : Wanted ops (get E) ⟨some d, .call { callee := .value (.func 37), args := #[a, b], argTypes := ats }, ty, pos, af, g⟩ true)
  (h : wpA Tryz.prog ⟨3, 3⟩ N ops chk Q l ⟨(d, .r (.v (.bool true))) :: E, (3, some (.row 3 1 (nums .i64 (st ++ [x.ix])))) :: (2, none) :: (0, some (.rowo 87 33 es (gwC ky (.ow 3) c'))) :: H, 4⟩
   ((3, ⟨true, [(2, .row 3 1 (nums .i64 st)), (0, .rowo 87 33 es (gwC ky (.ow 2) c))], .r (.v (.bool true)), [(2, none), (0, some (.rowo 87 33 es (gwC ky (.ow 3) c')))], [.row 3 1 (nums .i64 (st ++ [x.ix]))]⟩) :: tr)) :
  wpA Tryz.prog ⟨3, 3⟩ N ops chk Q (⟨some d, .call { callee := .value (.func 37), args := #[a, b], argTypes := ats }, ty, pos, af, g⟩ :: l) ⟨E, H, 3⟩ tr := by
 have hm := take_yes es ky st c c' x hst hc hx hm hk
 have hids : Blk.ids (.rowo 87 33 es (gwC ky (.ow 0) c)) = [0] := idss_gw _ _ _
 have hids3 : Blk.ids (.rowo 87 33 es (gwC ky (.ow 3) c')) = [3] := idss_gw _ _ _
 refine w_callX' [2, 0] _ _ [.row 3 1 (nums .i64 st), .rowo 87 33 es (gwC ky (.ow 2) c)] [none, some (.rowo 87 33 es (gwC ky (.ow 3) c'))] [.row 3 1 (nums .i64 (st ++ [x.ix]))] [none, some (.rowo 87 33 es (gwC ky (.ow 3) c'))] hm rfl ?_ ?_ ?_ (by kernel_rfl) ?_ ?_ ?_ ?_ hd hg h
 ·rw [unfrP, unfrP, unfrB, unfrs_gw _ _ _ _ rfl, unfrP]; rfl
 ·show [none, some (Blk.rowo 87 33 es (AV.rens (jren [2, 0]) (gwC ky (.ow 3) c')))] = _
  rw [rens_gw]; rfl
 ·show CfL _ _ _ [evA (get E) a, evA (get E) b] [_, _]
  rw [hE1, hE2]
  exact .cons _ _ _ _ (Cf.pe 1 33 es.length 0) (.cons _ _ _ _ (.ag _ _ (cfl_vsA0 _)) .nil)
 ·intro i b' h'
  simp only [rdOf, List.mem_cons, List.not_mem_nil, or_false, Prod.mk.injEq] at h'
  rcases h' with ⟨rfl, rfl⟩ | ⟨rfl, rfl⟩
  ·exact hH2
  ·exact hH0
 ·exact .cons _ _ _ _ (.row _ _ _) (.cons _ _ _ _ (.rowo _ _ _ _ _ (cfl_gw rfl)) .nil)
 ·unfold preX
  simp only [List.all_cons, List.all_nil, hids, hids3]
  have : AV.idss [AV.pe 1 33 es.length 0, pcA x] = [1] := by
   have h1 : (pcA x).ids = [] := idss_vsA0 _
   show [1] ++ ((pcA x).ids ++ []) = [1]
   rw [h1]; rfl
  rw [this]
  rfl
 ·rfl
theorem w_takeN {a b : Operand} {ats : Array TypeId} {es : List (List RV)} {ky : Int} {st : List Int} {c : Cn} {x : Pc} (hc : c.ok) (hx : x.c.ok) (hn : ∀ c', meetC c x.c = some c' → ky ≠ x.ky)
  (hE1 : evA (get E) a = .pe 0 33 es.length 0) (hE2 : evA (get E) b = pcA x) (hH0 : getH H 0 = some (.rowo 87 33 es (gwC ky (.ow 2) c))) (hH2 : getH H 2 = some (.row 3 1 (nums .i64 st)))
  (hd : Nat.blt d N = true) (hg : Wanted ops (get E) ⟨some d, .call { callee := .value (.func 37), args := #[a, b], argTypes := ats }, ty, pos, af, g⟩ true)
  (h : wpA Tryz.prog ⟨3, 3⟩ N ops chk Q l ⟨(d, .r (.v (.bool false))) :: E, (2, some (.row 3 1 (nums .i64 st))) :: (0, some (.rowo 87 33 es (gwC ky (.ow 2) c))) :: H, 3⟩
   ((3, ⟨true, [(2, .row 3 1 (nums .i64 st)), (0, .rowo 87 33 es (gwC ky (.ow 2) c))], .r (.v (.bool false)), [(2, some (.row 3 1 (nums .i64 st))), (0, some (.rowo 87 33 es (gwC ky (.ow 2) c)))], []⟩) :: tr)) :
  wpA Tryz.prog ⟨3, 3⟩ N ops chk Q (⟨some d, .call { callee := .value (.func 37), args := #[a, b], argTypes := ats }, ty, pos, af, g⟩ :: l) ⟨E, H, 3⟩ tr := by
 have hm : MeetsX Tryz.prog 37 [.pe 1 33 es.length 0, pcA x] [.row 3 1 (nums .i64 st), .rowo 87 33 es (gwC ky (.ow 0) c)] (.r (.v (.bool false)))
   [some (.row 3 1 (nums .i64 st)), some (.rowo 87 33 es (gwC ky (.ow 0) c))] := by
  cases hm : meetC c x.c with
  | none => exact take_apart es ky st c x hc hx hm
  | some c' => exact take_other es ky st c c' x hc hx hm (hn c' hm)
 have hids : Blk.ids (.rowo 87 33 es (gwC ky (.ow 0) c)) = [0] := idss_gw _ _ _
 refine w_callX' [2, 0] _ _ [.row 3 1 (nums .i64 st), .rowo 87 33 es (gwC ky (.ow 2) c)] [some (.row 3 1 (nums .i64 st)), some (.rowo 87 33 es (gwC ky (.ow 0) c))] [] [some (.row 3 1 (nums .i64 st)), some (.rowo 87 33 es (gwC ky (.ow 2) c))] hm rfl ?_ ?_ ?_ (by kernel_rfl) ?_ ?_ ?_ ?_ hd hg h
 ·rw [unfrP, unfrB, unfrP, unfrB, unfrs_gw _ _ _ _ rfl, unfrP]; rfl
 ·show [some (Blk.row 3 1 (nums .i64 st)), some (Blk.rowo 87 33 es (AV.rens (jren [2, 0]) (gwC ky (.ow 0) c)))] = _
  rw [rens_gw]; rfl
 ·show CfL _ _ _ [evA (get E) a, evA (get E) b] [_, _]
  rw [hE1, hE2]
  exact .cons _ _ _ _ (Cf.pe 1 33 es.length 0) (.cons _ _ _ _ (.ag _ _ (cfl_vsA0 _)) .nil)
 ·intro i b' h'
  simp only [rdOf, List.mem_cons, List.not_mem_nil, or_false, Prod.mk.injEq] at h'
  rcases h' with ⟨rfl, rfl⟩ | ⟨rfl, rfl⟩
  ·exact hH2
  ·exact hH0
 ·exact .cons _ _ _ _ (.row _ _ _) (.cons _ _ _ _ (.rowo _ _ _ _ _ (cfl_gw rfl)) .nil)
 ·unfold preX
  simp only [List.all_cons, List.all_nil, hids]
  have : AV.idss [AV.pe 1 33 es.length 0, pcA x] = [1] := by
   have h1 : (pcA x).ids = [] := idss_vsA0 _
   show [1] ++ ((pcA x).ids ++ []) = [1]
   rw [h1]; rfl
  rw [this]
  rfl
 ·rfl
end
end Go.Proofs.YtibedaeefnjjlaaGreat
namespace Go.Proofs.YtibedaeefnjjlaaGreat
open Go.RowKit Go.Ab Go.Wd
structure Gr where
 ky : Int
 ss : List Int
 c : Cn
 deriving Inhabited
def grR (g : Gr) (v : Value) : List RV := .v (.int .i64 g.ky) :: ((rtVs 0 0).map RV.v ++ .v v :: (cnVs g.c.o g.c.p g.c.q g.c.r g.c.s).map RV.v)
def jnTo (g : Gr) (x : Pc) : Option Gr := match meetC g.c x.c with | some c => if g.ky = x.ky then some ⟨g.ky, g.ss ++ [x.ix], c⟩ else none | none => none
def newG (x : Pc) : Gr := ⟨x.ky, [x.ix], x.c⟩
def jn (gs : List Gr) (x : Pc) : List Gr := match gs.getLast? with | some g => (match jnTo g x with | some g' => gs.dropLast ++ [g'] | none => gs ++ [newG x]) | none => gs ++ [newG x]
def jnR (ps : List (Gr × Value)) : List (List RV) := ps.map fun p => grR p.1 p.2
def jnF (ps : List (Gr × Value)) : Fam := ps.map fun p => (p.2, .row 3 1 (nums .i64 p.1.ss))
def jS1 (s : List Pc) (y : Nat × List (Gr × Value)) : St := ⟨[(4, .ow 0), (16, .r (.sl 24 (pcs s))), (17, .r (.v (.int .i64 (s.length : Int)))), (18, .r (.v (.int .i64 (y.1 : Int))))], [(0, some (.row 87 33 (jnR y.2)))], 1⟩
theorem grR_gw (g : Gr) (v : Value) : (grR g v).map AV.r = gwC g.ky (.r (.v v)) g.c := by
 simp [grR, gwC, vsA, Function.comp_def]
theorem cfl_grR {H : Nat → Option Blk} {ρ : Nat → Nat} {G : List Nat} {g : Gr} {v : Value} : CfL H ρ G (gwC g.ky (.r (.v v)) g.c) ((grR g v).map AV.r) := by
 rw [grR_gw]; exact cfl_gwr
theorem lits_vsA (q : Nat) (v : Value) : ∀ (vs : List Value) (cs : List AV), AV.lits q v (vsA vs ++ cs) = vsA vs ++ AV.lits q v cs
 | [], cs => rfl
 | u :: vs, cs => by
  show AV.lits q v (.r (.v u) :: (vsA vs ++ cs)) = _
  rw [AV.lits, lits_vsA q v vs cs]; rfl
theorem lits_vsA0 (q : Nat) (v : Value) (vs : List Value) : AV.lits q v (vsA vs) = vsA vs := by
 have := lits_vsA q v vs []
 rw [List.append_nil] at this
 rw [this, AV.lits, List.append_nil]
theorem lits_gw (q : Nat) (v : Value) (ky : Int) (c : Cn) : AV.lits q v (gwC ky (.ow q) c) = gwC ky (.r (.v v)) c := by
 unfold gwC
 rw [AV.lits, lits_vsA, AV.lits, lits_vsA0]
 simp [AV.lit]
theorem jnTo_none {g : Gr} {x : Pc} (h : jnTo g x = none) : ∀ c', meetC g.c x.c = some c' → g.ky ≠ x.ky := by
 intro c' hc hk
 unfold jnTo at h
 rw [hc] at h
 simp [hk] at h
theorem jnTo_some {g g' : Gr} {x : Pc} (h : jnTo g x = some g') : ∃ c, meetC g.c x.c = some c ∧ g.ky = x.ky ∧ g' = ⟨g.ky, g.ss ++ [x.ix], c⟩ := by
 unfold jnTo at h
 split at h
 ·rename_i c hc
  split at h
  ·rename_i hk; injection h with h; exact ⟨c, hc, hk, h.symm⟩
  ·cases h
 ·cases h
theorem jn_nil (x : Pc) : jn [] x = [newG x] := rfl
theorem jn_snoc (gs : List Gr) (g : Gr) (x : Pc) : jn (gs ++ [g]) x = match jnTo g x with | some g' => gs ++ [g'] | none => gs ++ [g] ++ [newG x] := by
 unfold jn
 rw [List.getLast?_append]
 simp only [List.getLast?_singleton, Option.some_or, List.dropLast_concat]
theorem jn_inv : ∀ (s : List Pc) (_ : ∀ x ∈ s, x.c.ok) (gs : List Gr) (m : Nat), (∀ g ∈ gs, g.c.ok ∧ g.ss.length ≤ m) → ∀ g ∈ s.foldl jn gs, g.c.ok ∧ g.ss.length ≤ m + s.length
 | [], _, gs, m, h => h
 | x :: s, hs, gs, m, h => by
  have hx := hs x (List.mem_cons_self ..)
  intro g hg
  have := jn_inv s (fun y hy => hs y (List.mem_cons_of_mem _ hy)) (jn gs x) (m + 1) (by
   rcases List.eq_nil_or_concat gs with rfl | ⟨gs', g', rfl⟩
   ·rw [jn_nil]; intro g hg; rw [List.mem_singleton] at hg; subst hg; exact ⟨hx, by simp [newG]⟩
   ·rw [List.concat_eq_append] at *
    rw [jn_snoc]
    intro q hq
    have h1 : ∀ q ∈ gs' ++ [g'], q.c.ok ∧ q.ss.length ≤ m + 1 := fun q hq => ⟨(h q hq).1, by have := (h q hq).2; omega⟩
    split at hq
    ·rename_i g2 hg2
     obtain ⟨c, hc, hk, rfl⟩ := jnTo_some hg2
     rcases List.mem_append.1 hq with hq | hq
     ·exact h1 q (List.mem_append_left _ hq)
     ·rw [List.mem_singleton] at hq; subst hq
      have h2 := h g' (by simp)
      exact ⟨meetC_ok h2.1 hx hc, by simp; exact h2.2⟩
    ·rcases List.mem_append.1 hq with hq | hq
     ·exact h1 q hq
     ·rw [List.mem_singleton] at hq; subst hq; exact ⟨hx, by simp [newG]⟩) g hg
  rw [List.length_cons]
  exact ⟨this.1, by have := this.2; omega⟩
theorem jn_len : ∀ (s : List Pc) (gs : List Gr), (s.foldl jn gs).length ≤ gs.length + s.length
 | [], gs => Nat.le_refl _
 | x :: s, gs => by
  have h1 : (jn gs x).length ≤ gs.length + 1 := by
   rcases List.eq_nil_or_concat gs with rfl | ⟨gs', g', rfl⟩
   ·simp [jn_nil]
   ·rw [List.concat_eq_append, jn_snoc]; split <;> simp
  have := jn_len s (jn gs x)
  rw [List.foldl_cons, List.length_cons]; omega
def chC (c : Cn) : Int × Int := if c.o then (0, 1) else btw c.p c.q c.r c.s
theorem choose_ok {c : Cn} (h : c.ok) : Meets Tryz.prog 39 [c.A] [] (rt (chC c).1 (chC c).2) [] := by
 obtain ⟨o, p, q, r, s⟩ := c
 unfold Cn.A chC
 rcases h with ⟨h1, h2, h3, h4, h5⟩ | ⟨h1, h2⟩ <;> dsimp only at * <;> subst h1
 ·subst h2 h3 h4 h5; exact coneChoose0_m
 ·exact coneChoose_m p q r s h2
def gwS (ky : Int) (p q : Int) (s : AV) (c : Cn) : List AV := .r (.v (.int .i64 ky)) :: (vsA (rtVs p q) ++ s :: vsA (cnVs c.o c.p c.q c.r c.s))
theorem cfl_gwS {H : Nat → Option Blk} {ρ : Nat → Nat} {G : List Nat} {ky p q : Int} {i j : Nat} {c : Cn} (e : ρ i = j) : CfL H ρ G (gwS ky p q (.ow j) c) (gwS ky p q (.ow i) c) := by
 subst e
 exact .cons _ _ _ _ (.r _) (cfl_vsA _ (.cons _ _ _ _ (.ow _) (cfl_vsA0 _)))
theorem cfl_gwSr {H : Nat → Option Blk} {ρ : Nat → Nat} {G : List Nat} {ky p q : Int} {v : Value} {c : Cn} : CfL H ρ G (gwS ky p q (.r (.v v)) c) (gwS ky p q (.r (.v v)) c) :=
 .cons _ _ _ _ (.r _) (cfl_vsA _ (.cons _ _ _ _ (.r _) (cfl_vsA0 _)))
theorem lits_gwS (n : Nat) (v : Value) (ky p q : Int) (c : Cn) : AV.lits n v (gwS ky p q (.ow n) c) = gwS ky p q (.r (.v v)) c := by
 unfold gwS
 rw [AV.lits, lits_vsA, AV.lits, lits_vsA0]
 simp [AV.lit]
def oR (g : Gr) (v : Value) : List RV := .v (.int .i64 g.ky) :: ((rtVs (chC g.c).1 (chC g.c).2).map RV.v ++ [.v v])
def oRs (ds : List (Gr × Value)) : List (List RV) := ds.map fun p => oR p.1 p.2
def oF (ds : List (Gr × Value)) : Fam := ds.map fun p => (p.2, .row 3 1 (nums .i64 (sortZ p.1.ss)))
def zRv : List RV := .v (.int .i64 0) :: ([.bool false, .int .u64 0, .int .u64 0, .int .u64 0, .int .u64 0, .bool false, .int .u64 0, .int .u64 0, .int .u64 0, .int .u64 0, .slice none 0 0] : List Value).map RV.v
def grO (g : Gr) : List RV := .v (.int .i64 g.ky) :: ((rtVs (chC g.c).1 (chC g.c).2).map RV.v ++ [.sl 1 (nums .i64 (sortZ g.ss))])
theorem fz_o : ∀ (ds : List (Gr × Value)) (F : Fam), (∀ p ∈ ds, (p.2, Blk.row 3 1 (nums .i64 (sortZ p.1.ss))) ∈ F) → FzL F (oRs ds).flatten (ds.map fun p => grO p.1).flatten
 | [], F, _ => .nil
 | (g, v) :: ds, F, h => by
  show FzL F (oR g v ++ (oRs ds).flatten) (grO g ++ (ds.map fun p => grO p.1).flatten)
  refine .append ?_ (fz_o ds F fun p hp => h p (List.mem_cons_of_mem _ hp))
  exact .same _ _ _ (.append (FzL.refl _ _) (.sl v _ 1 (nums .i64 (sortZ g.ss)) [] [] (h (g, v) (List.mem_cons_self ..)) .nil))
def jS2 (ps : List (Gr × Value)) (y : Nat × List (Gr × Value)) : St := ⟨[(50, .ow 0), (51, .r (.v (.int .i64 (ps.length : Int)))), (52, .r (.v (.int .i64 (y.1 : Int)))), (8, .ow 1)], [(0, some (.row 87 33 (jnR ps))), (1, some (.row 51 12 (oRs y.2 ++ List.replicate (ps.length - y.1) zRv)))], 2⟩
set_option maxHeartbeats 8000000 in
theorem join_m (l : List Pc) (hl : l.length ≤ 1000000) (h : PcOk l) : Meets Tryz.prog 15 [.r (.sl 24 (pcs l))] [] (.tu [.fr 51 12 (((sortP l).foldl jn []).map grO), .r (.v (.int .i64 0))]) [] := by
 have c1 := sound_m l hl h
 have c2 := values_m l
 have c3 := sortedFunc_m l hl h
 have hps : PcOk (sortP l) := h.perm (sortP_perm l)
 have hsl : (pcs (sortP l)).length = (sortP l).length := pcs_len _
 have hll : (sortP l).length = l.length := (sortP_perm l).length_eq
 generalize sortP l = s at *
 refine fn_of Tryz.func15 rfl (Nat.le_of_ble_eq_true rfl) rfl rfl ?_
 refine awp_ofX ?_
 have h00 : ([] : List (List RV)) = jnR [] := rfl
 unfold itA cpF at *
 refine awpX_seqP (T := ⟨[(0, .r (.sl 24 (pcs l)))], [], 0⟩) rfl (by
  (repeat' (first | refine r_95e112 ?_ | (refine r_0efca5 (fun hb => ?_) (fun hb => ?_) <;> (try (exfalso; omega))) | fail))
  exact ⟨rfl, by (refine LeX.mk [] [] q_5ec36 q_871b6 q_bbfed)⟩) ?_
 refine awpX_seqP (T := ⟨[(0, .r (.sl 24 (pcs l)))], [], 0⟩) rfl (by
  (repeat' (first | refine r_95e112 ?_ | (refine is_f 33 ?_; refine r_e7cc0f (c1) ?_) | (refine r_0efca5 (fun hb => ?_) (fun hb => ?_) <;> (try (exfalso; omega))) | fail))
  exact ⟨rfl, by (refine LeX.mk [] [] q_5ec36 q_871b6 q_bbfed)⟩) ?_
 refine awpX_seqP (T := ⟨[(0, .r (.sl 24 (pcs l))), (4, .r (.v (.slice none 0 0)))], [], 0⟩) rfl (by
  (repeat' (first | refine r_95e112 ?_ | (refine r_0efca5 (fun hb => ?_) (fun hb => ?_) <;> (try (exfalso; omega))) | fail))
  exact ⟨rfl, by (refine LeX.mk [] [] q_5ec36 q_871b6 q_bbfed)⟩) ?_
 refine awpX_seq (awpX_seqP (T := jS1 s (0, [])) rfl (by
  refine awp_nilowL 4 87 33 rfl rfl ?_
  change awp _ _ _ _ _ ⟨[(4, .ow 0), (0, .r (.sl 24 (pcs l))), (4, .r (.v (.slice none 0 0)))], [(0, some (.row 87 33 []))], 1⟩
  (repeat' (first | refine r_95e112 ?_ | (refine is_f 35 ?_; refine r_e7cc0f (c2) ?_) | (refine is_f 34 ?_; refine r_e7cc0f (c3) ?_) | (refine r_0efca5 (fun hb => ?_) (fun hb => ?_) <;> (try (exfalso; omega))) | fail))
  refine ⟨rfl, ?_⟩
  unfold jS1
  dsimp only
  exact by (refine LeX.mk [] [1] q_5ec36 q_871b6 q_bbfed)) ?_)
 refine awpX_block (awpX_loop (jS1 s) (fun y => jnF y.2) (fun y => y.1 ≤ s.length ∧ y.2.map (·.1) = (s.take y.1).foldl jn []) (fun y => s.length - y.1) (0, []) ⟨Nat.zero_le _, rfl⟩ (fun C a w hl hs => hs) ?_)
 rintro ⟨k, ps⟩ ⟨hk, hfold⟩
 dsimp only at hk hfold ⊢
 unfold jS1
 dsimp only
 have hjl : (jnR ps).length = ps.length := by simp [jnR]
 by_cases hlt : k < s.length
 ·obtain ⟨x, hx⟩ : ∃ x, s[k]? = some x := ⟨_, List.getElem?_eq_getElem hlt⟩
  have hgx := pcs_get hx
  have hstep : (s.take (k + 1)).foldl jn [] = jn ((s.take k).foldl jn []) x := by
   rw [List.take_add_one, hx, List.foldl_append]; rfl
  refine awpX_seqP (T := ⟨[(4, .ow 0), (16, .r (.sl 24 (pcs s))), (17, .r (.v (.int .i64 (s.length : Int)))), (18, .r (.v (.int .i64 (k : Int)))), (19, .r (.v (.bool true)))], [(0, some (.row 87 33 (jnR ps)))], 1⟩) rfl (by
   (repeat' (first | refine r_95e112 ?_ | (refine r_0efca5 (fun hb => ?_) (fun hb => ?_) <;> (try (exfalso; omega))) | fail))
   all_goals exact ⟨rfl, by (refine LeX.mk [] [] q_5ec36 q_871b6 q_bbfed)⟩) ?_
  refine awpX_seq (awpX_cond (b := true) rfl (fun _ => awpX_skip ?_) (fun h => nomatch h))
  show awpX _ _ _ _ _ _
  refine awpX_seq (awpX_block ?_)
  refine awpX_seqP (T := ⟨[(4, .ow 0), (16, .r (.sl 24 (pcs s))), (17, .r (.v (.int .i64 (s.length : Int)))), (18, .r (.v (.int .i64 (k : Int)))), (6, .pt 1 0)], [(0, some (.row 87 33 (jnR ps))), (1, some (.var 42 (vsA (pcVs x))))], 2⟩) rfl (by
   (repeat' (first | refine r_95e112 ?_ | (refine r_0efca5 (fun hb => ?_) (fun hb => ?_) <;> (try (exfalso; omega))) | fail))
   all_goals exact ⟨rfl, by (refine LeX.mk [] [] q_5ec36 q_871b6 q_bbfed)⟩) ?_
  refine awpX_seqE (fun ps2 : List (Gr × Value) => ps2.map (·.1) = ps.map (·.1) ∧ jn (ps.map (·.1)) x = ps.map (·.1) ++ [newG x]) (fun ps2 => ⟨[(4, .ow 0), (16, .r (.sl 24 (pcs s))), (17, .r (.v (.int .i64 (s.length : Int)))), (18, .r (.v (.int .i64 (k : Int)))), (6, .pt 1 0)], [(0, some (.row 87 33 (jnR ps2))), (1, some (.var 42 (vsA (pcVs x))))], 2⟩) jnF ?_ ?_
  ·refine awpX_seqP (T := ⟨[(4, .ow 0), (16, .r (.sl 24 (pcs s))), (17, .r (.v (.int .i64 (s.length : Int)))), (18, .r (.v (.int .i64 (k : Int)))), (6, .pt 1 0), (7, .r (.v (.int .i64 (ps.length : Int))))], [(0, some (.row 87 33 (jnR ps))), (1, some (.var 42 (vsA (pcVs x))))], 2⟩) rfl (by
    (repeat' (first | refine r_95e112 ?_ | (refine r_0efca5 (fun hb => ?_) (fun hb => ?_) <;> (try (exfalso; omega))) | fail))
    all_goals exact ⟨rfl, by (refine LeX.mk [] [] q_5ec36 q_871b6 q_bbfed)⟩) ?_
   rcases List.eq_nil_or_concat ps with rfl | ⟨ps', ⟨g, v⟩, rfl⟩
   ·have hz : ¬ (0 : Int) < ((([] : List (Gr × Value)).length : Nat) : Int) := by simp
    refine awpX_seqP (T := ⟨[(4, .ow 0), (16, .r (.sl 24 (pcs s))), (17, .r (.v (.int .i64 (s.length : Int)))), (18, .r (.v (.int .i64 (k : Int)))), (6, .pt 1 0), (33, .r (.v (.bool false)))], [(0, some (.row 87 33 (jnR []))), (1, some (.var 42 (vsA (pcVs x))))], 2⟩) rfl (by
     (repeat' (first | refine r_95e112 ?_ | (refine r_0efca5 (fun hb => ?_) (fun hb => ?_) <;> (try (exfalso; omega))) | fail))
     all_goals exact ⟨rfl, by (refine LeX.mk [] [] q_5ec36 q_871b6 q_bbfed)⟩) ?_
    exact awpX_cond (b := false) rfl (fun h => nomatch h) (fun _ => awpX_leX (S' := ⟨[(4, .ow 0), (16, .r (.sl 24 (pcs s))), (17, .r (.v (.int .i64 (s.length : Int)))), (18, .r (.v (.int .i64 (k : Int)))), (6, .pt 1 0)], [(0, some (.row 87 33 (jnR []))), (1, some (.var 42 (vsA (pcVs x))))], 2⟩) (by (refine LeX.mk [] [] q_5ec36 q_871b6 q_bbfed)) (awpX_skip ⟨[], ⟨rfl, rfl⟩, rfl, rfl⟩))
   ·rw [List.concat_eq_append] at *
    have hR : jnR (ps' ++ [(g, v)]) = jnR ps' ++ [grR g v] := by simp [jnR]
    have hF : jnF (ps' ++ [(g, v)]) = jnF ps' ++ (v, .row 3 1 (nums .i64 g.ss)) :: [] := by simp [jnF]
    have hjl' : (jnR ps').length = ps'.length := by simp [jnR]
    have hL2 : (ps' ++ [(g, v)]).length = ps'.length + 1 := by simp
    have hgi : g.c.ok ∧ g.ss.length ≤ 0 + (s.take k).length := jn_inv (s.take k) (fun y hy => hps.c y (List.mem_of_mem_take hy)) [] 0 (fun _ h => nomatch h) g (by rw [← hfold]; simp)
    have hgl : g.ss.length ≤ 1000000 := by have := hgi.2; rw [List.length_take] at this; omega
    rw [hR, hF, hL2]
    refine awpX_rowo (i := 0) (es := jnR ps') (e := grR g v) rfl ?_
    refine awpX_take (n := 2) (F2 := []) (E := [(4, .ow 0), (16, .r (.sl 24 (pcs s))), (17, .r (.v (.int .i64 (s.length : Int)))), (18, .r (.v (.int .i64 (k : Int)))), (6, .pt 1 0), (7, .r (.v (.int .i64 ((ps'.length + 1 : Nat) : Int))))]) (H := [(0, some (.rowo 87 33 (jnR ps') (gwC g.ky (.ow 2) g.c))), (0, some (.row 87 33 (jnR ps' ++ [grR g v]))), (1, some (.var 42 (vsA (pcVs x))))]) rfl ?_
    have hpl : ps'.length + 1 ≤ 1000000 := by
     have h1 := jn_len (s.take k) []
     rw [← hfold, List.length_map, hL2, List.length_nil, List.length_take] at h1
     omega
    have hwn : IntKind.i64.wrap (((ps'.length + 1 : Nat) : Int) - 1) = ((ps'.length : Nat) : Int) := by
     rw [show ((ps'.length + 1 : Nat) : Int) - 1 = ((ps'.length : Nat) : Int) by omega]
     rw [IntKind.wrap_i64]; omega
    have hjc : ((ps'.length : Nat) : Int) = ((jnR ps').length : Int) := by rw [hjl']
    have hxc := hps.c x (List.mem_of_getElem? hx)
    refine awpX_leX (S' := ⟨[(4, .ow 0), (16, .r (.sl 24 (pcs s))), (17, .r (.v (.int .i64 (s.length : Int)))), (18, .r (.v (.int .i64 (k : Int)))), (6, .pt 1 0), (7, .r (.v (.int .i64 ((ps'.length + 1 : Nat) : Int))))], [(0, some (.rowo 87 33 (jnR ps') (gwC g.ky (.ow 2) g.c))), (1, some (.var 42 (vsA (pcVs x)))), (2, some (.row 3 1 (nums .i64 g.ss)))], 3⟩) (by
     refine LeX.mk [] [] rfl (by (repeat' (first | exact le_nil | refine le_na ?_ | refine le_r ?_ rfl rfl | refine le_int ?_ (by omega) rfl | refine le_ow ?_ rfl rfl | refine le_pt ?_ rfl rfl | refine le_fz ?_ rfl q_bf1c9 rfl rfl | refine le_sv ?_ rfl rfl | refine le_ol ?_ rfl rfl | refine le_ag ?_ ?_ rfl | refine le_cl ?_ ?_ rfl | refine cfl_pt ?_ rfl | refine cfl_r ?_ rfl | refine cfl_rp ?_ rfl | exact CfL.nil))) ?_
     exact ⟨⟨_, rfl, .rowo _ _ _ _ _ (cfl_gw rfl)⟩, ⟨_, rfl, .var _ _ _ (cfl_vsA0 _)⟩, ⟨_, rfl, .row _ _ _⟩, trivial⟩) ?_
    cases hj : jnTo g x with
    | none =>
     have hj' := jnTo_none hj
     refine awpX_seqP (T := ⟨[(4, .ow 0), (16, .r (.sl 24 (pcs s))), (17, .r (.v (.int .i64 (s.length : Int)))), (18, .r (.v (.int .i64 (k : Int)))), (6, .pt 1 0), (33, .r (.v (.bool false)))], [(0, some (.rowo 87 33 (jnR ps') (gwC g.ky (.ow 2) g.c))), (1, some (.var 42 (vsA (pcVs x)))), (2, some (.row 3 1 (nums .i64 g.ss)))], 3⟩) rfl (by
      (repeat' (first | refine r_95e112 ?_ | (refine r_0efca5 (fun hb => ?_) (fun hb => ?_) <;> (try (exfalso; omega))) | fail))
      refine w_takeN hgi.1 hxc hj' rfl rfl rfl rfl rfl (by first | exact .inl ⟨rfl, rfl⟩ | exact wanted_list rfl rfl rfl rfl) ?_
      (repeat' (first | refine r_95e112 ?_ | (refine r_0efca5 (fun hb => ?_) (fun hb => ?_) <;> (try (exfalso; omega))) | fail))
      refine ⟨rfl, LeX.mk [] [] rfl (by (repeat' (first | exact le_nil | refine le_na ?_ | refine le_r ?_ rfl rfl | refine le_int ?_ (by omega) rfl | refine le_ow ?_ rfl rfl | refine le_pt ?_ rfl rfl | refine le_fz ?_ rfl q_bf1c9 rfl rfl | refine le_sv ?_ rfl rfl | refine le_ol ?_ rfl rfl | refine le_ag ?_ ?_ rfl | refine le_cl ?_ ?_ rfl | refine cfl_pt ?_ rfl | refine cfl_r ?_ rfl | refine cfl_rp ?_ rfl | exact CfL.nil))) ?_⟩
      exact ⟨⟨_, rfl, .rowo _ _ _ _ _ (cfl_gw rfl)⟩, ⟨_, rfl, .var _ _ _ (cfl_vsA0 _)⟩, ⟨_, rfl, .row _ _ _⟩, trivial⟩) ?_
     refine awpX_cond (b := false) rfl (fun h => nomatch h) (fun _ => ?_)
     refine awpX_put (q := 2) (b := .row 3 1 (nums .i64 g.ss)) (F1 := jnF ps') (F2 := []) rfl rfl fun v' => ?_
     refine awpX_leX (S' := ⟨[(4, .ow 0), (16, .r (.sl 24 (pcs s))), (17, .r (.v (.int .i64 (s.length : Int)))), (18, .r (.v (.int .i64 (k : Int)))), (6, .pt 1 0)], [(0, some (.row 87 33 (jnR (ps' ++ [(g, v')])))), (1, some (.var 42 (vsA (pcVs x))))], 2⟩) (by
      refine LeX.mk [] [] rfl (by (repeat' (first | exact le_nil | refine le_na ?_ | refine le_r ?_ rfl rfl | refine le_int ?_ (by omega) rfl | refine le_ow ?_ rfl rfl | refine le_pt ?_ rfl rfl | refine le_fz ?_ rfl q_bf1c9 rfl rfl | refine le_sv ?_ rfl rfl | refine le_ol ?_ rfl rfl | refine le_ag ?_ ?_ rfl | refine le_cl ?_ ?_ rfl | refine cfl_pt ?_ rfl | refine cfl_r ?_ rfl | refine cfl_rp ?_ rfl | exact CfL.nil))) ?_
      exact hl_rowc (es := jnR ps') (hl_var hl_nil (cfl_vsA0 _) (by rw [← lits_vsA0 2 v' (pcVs x)]; rfl)) (cfl_grR (g := g) (v := v')) (by simp [jnR]) (by rw [← lits_gw 2 v' g.ky g.c]; rfl)) ?_
     exact awpX_skip ⟨ps' ++ [(g, v')], ⟨by simp, by
      rw [List.map_append]
      show jn (_ ++ [g]) x = _ ++ [g] ++ _
      rw [jn_snoc, hj]⟩, rfl, by simp [jnF]⟩
    | some g' =>
     obtain ⟨c', hc', hk', rfl⟩ := jnTo_some hj
     refine awpX_seqP (T := ⟨[(4, .ow 0), (16, .r (.sl 24 (pcs s))), (17, .r (.v (.int .i64 (s.length : Int)))), (18, .r (.v (.int .i64 (k : Int)))), (6, .pt 1 0), (33, .r (.v (.bool true)))], [(0, some (.rowo 87 33 (jnR ps') (gwC g.ky (.ow 3) c'))), (1, some (.var 42 (vsA (pcVs x)))), (3, some (.row 3 1 (nums .i64 (g.ss ++ [x.ix]))))], 4⟩) rfl (by
      (repeat' (first | refine r_95e112 ?_ | (refine r_0efca5 (fun hb => ?_) (fun hb => ?_) <;> (try (exfalso; omega))) | fail))
      refine w_takeY hgl hgi.1 hxc hc' hk' rfl rfl rfl rfl rfl (by first | exact .inl ⟨rfl, rfl⟩ | exact wanted_list rfl rfl rfl rfl) ?_
      (repeat' (first | refine r_95e112 ?_ | (refine r_0efca5 (fun hb => ?_) (fun hb => ?_) <;> (try (exfalso; omega))) | fail))
      refine ⟨rfl, LeX.mk [] [] rfl (by (repeat' (first | exact le_nil | refine le_na ?_ | refine le_r ?_ rfl rfl | refine le_int ?_ (by omega) rfl | refine le_ow ?_ rfl rfl | refine le_pt ?_ rfl rfl | refine le_fz ?_ rfl q_bf1c9 rfl rfl | refine le_sv ?_ rfl rfl | refine le_ol ?_ rfl rfl | refine le_ag ?_ ?_ rfl | refine le_cl ?_ ?_ rfl | refine cfl_pt ?_ rfl | refine cfl_r ?_ rfl | refine cfl_rp ?_ rfl | exact CfL.nil))) ?_⟩
      exact ⟨⟨_, rfl, .rowo _ _ _ _ _ (cfl_gw rfl)⟩, ⟨_, rfl, .var _ _ _ (cfl_vsA0 _)⟩, ⟨_, rfl, .row _ _ _⟩, trivial⟩) ?_
     refine awpX_cond (b := true) rfl (fun _ => ?_) (fun h => nomatch h)
     refine awpX_put (q := 3) (b := .row 3 1 (nums .i64 (g.ss ++ [x.ix]))) (F1 := jnF ps') (F2 := []) rfl rfl fun v' => ?_
     refine awpX_leX (S' := ⟨[(4, .ow 0), (16, .r (.sl 24 (pcs s))), (17, .r (.v (.int .i64 (s.length : Int)))), (18, .r (.v (.int .i64 (k : Int))))], [(0, some (.row 87 33 (jnR (ps' ++ [(⟨g.ky, g.ss ++ [x.ix], c'⟩, v')]))))], 1⟩) (by
      refine LeX.mk [] [] rfl (by (repeat' (first | exact le_nil | refine le_na ?_ | refine le_r ?_ rfl rfl | refine le_int ?_ (by omega) rfl | refine le_ow ?_ rfl rfl | refine le_pt ?_ rfl rfl | refine le_fz ?_ rfl q_bf1c9 rfl rfl | refine le_sv ?_ rfl rfl | refine le_ol ?_ rfl rfl | refine le_ag ?_ ?_ rfl | refine le_cl ?_ ?_ rfl | refine cfl_pt ?_ rfl | refine cfl_r ?_ rfl | refine cfl_rp ?_ rfl | exact CfL.nil))) ?_
      exact hl_rowc (es := jnR ps') hl_nil (cfl_grR (g := ⟨g.ky, g.ss ++ [x.ix], c'⟩) (v := v')) (by simp [jnR]) (by rw [← lits_gw 3 v' g.ky c']; rfl)) ?_
     refine awpX_exit ?_
     show awpX _ _ _ _ _ _
     refine awpX_of rfl ?_
     (repeat' (first | refine r_95e112 ?_ | (refine r_0efca5 (fun hb => ?_) (fun hb => ?_) <;> (try (exfalso; omega))) | fail))
     intro C a w hl hs
     refine ⟨(k + 1, ps' ++ [(⟨g.ky, g.ss ++ [x.ix], c'⟩, v')]), ⟨hlt, ?_⟩, (by show s.length - (k + 1) < s.length - k; omega), ?_⟩
     ·show List.map _ (ps' ++ [(⟨g.ky, g.ss ++ [x.ix], c'⟩, v')]) = _
      rw [hstep, ← hfold, List.map_append, List.map_append]
      show _ = jn (_ ++ [g]) x
      rw [jn_snoc, hj]; rfl
     ·have hq : jnF (ps' ++ [(⟨g.ky, g.ss ++ [x.ix], c'⟩, v')]) = jnF ps' ++ [(v', Blk.row 3 1 (nums .i64 (g.ss ++ [x.ix])))] := by simp [jnF]
      show SimX C _ (jnF (ps' ++ [(⟨g.ky, g.ss ++ [x.ix], c'⟩, v')])) a w
      rw [hq]
      exact LeX.mk [] [] rfl (by (repeat' (first | exact le_nil | refine le_na ?_ | refine le_r ?_ rfl rfl | refine le_int ?_ (by omega) rfl | refine le_ow ?_ rfl rfl | refine le_pt ?_ rfl rfl | refine le_fz ?_ rfl q_bf1c9 rfl rfl | refine le_sv ?_ rfl rfl | refine le_ol ?_ rfl rfl | refine le_ag ?_ ?_ rfl | refine le_cl ?_ ?_ rfl | refine cfl_pt ?_ rfl | refine cfl_r ?_ rfl | refine cfl_rp ?_ rfl | exact CfL.nil))) (hl_row hl_nil rfl rfl) C _ a w hl hs
  ·rintro ps2 ⟨hps2, hjnew⟩
   have hjl2 : (jnR ps2).length = ps2.length := by simp [jnR]
   have hpl2 : ps2.length ≤ 1000000 := by
    have h1 := jn_len (s.take k) []
    rw [← hfold, ← hps2, List.length_map, List.length_nil, List.length_take] at h1
    omega
   refine awpX_of rfl ?_
   (repeat' (first | refine r_95e112 ?_ | (refine r_0efca5 (fun hb => ?_) (fun hb => ?_) <;> (try (exfalso; omega))) | fail))
   refine is_build ?_
   refine w_read rfl (by first | exact .inl ⟨rfl, rfl⟩ | exact wanted_list rfl rfl rfl rfl) (p_build (cs := .r (.v (.int .i64 x.ky)) :: (vsA (rtVs 0 0) ++ [.ow 2])) [(2, .row 3 1 [[.v (.int .i64 x.ix)]])] rfl rfl (fun i b h => by
    simp only [List.mem_cons, List.not_mem_nil, or_false, Prod.mk.injEq] at h
    obtain ⟨rfl, rfl⟩ := h
    rfl)) ?_
   (repeat' (first | refine r_95e112 ?_ | (refine r_0efca5 (fun hb => ?_) (fun hb => ?_) <;> (try (exfalso; omega))) | fail))
   show awpX _ _ _ _ _ _
   refine awpX_leX (S' := ⟨[(4, .ow 1), (16, .r (.sl 24 (pcs s))), (17, .r (.v (.int .i64 (s.length : Int)))), (18, .r (.v (.int .i64 (k : Int))))], [(1, some (.rowo 87 33 (jnR ps2) (gwC x.ky (.ow 0) x.c))), (0, some (.row 3 1 (nums .i64 [x.ix])))], 2⟩) (by
    refine LeX.mk [(0, 2), (1, 4)] [] rfl (by (repeat' (first | exact le_nil | refine le_na ?_ | refine le_r ?_ rfl rfl | refine le_int ?_ (by omega) rfl | refine le_ow ?_ rfl rfl | refine le_pt ?_ rfl rfl | refine le_fz ?_ rfl q_bf1c9 rfl rfl | refine le_sv ?_ rfl rfl | refine le_ol ?_ rfl rfl | refine le_ag ?_ ?_ rfl | refine le_cl ?_ ?_ rfl | refine cfl_pt ?_ rfl | refine cfl_r ?_ rfl | refine cfl_rp ?_ rfl | exact CfL.nil))) ?_
    exact ⟨⟨_, rfl, .rowo _ _ _ _ _ (show CfL _ _ _ (gwC x.ky (.ow 2) x.c) _ from cfl_gw rfl)⟩, ⟨_, rfl, .row _ _ _⟩, trivial⟩) ?_
   rw [show jnF ps2 = jnF ps2 ++ [] from (List.append_nil _).symm]
   refine awpX_put (q := 0) (b := .row 3 1 (nums .i64 [x.ix])) (F1 := jnF ps2) (F2 := []) rfl rfl fun v' => ?_
   refine awpX_leX (S' := ⟨[(4, .ow 0), (16, .r (.sl 24 (pcs s))), (17, .r (.v (.int .i64 (s.length : Int)))), (18, .r (.v (.int .i64 (k : Int))))], [(0, some (.row 87 33 (jnR (ps2 ++ [(newG x, v')]))))], 1⟩) (by
    refine LeX.mk [(0, 1)] [] rfl (by (repeat' (first | exact le_nil | refine le_na ?_ | refine le_r ?_ rfl rfl | refine le_int ?_ (by omega) rfl | refine le_ow ?_ rfl rfl | refine le_pt ?_ rfl rfl | refine le_fz ?_ rfl q_bf1c9 rfl rfl | refine le_sv ?_ rfl rfl | refine le_ol ?_ rfl rfl | refine le_ag ?_ ?_ rfl | refine le_cl ?_ ?_ rfl | refine cfl_pt ?_ rfl | refine cfl_r ?_ rfl | refine cfl_rp ?_ rfl | exact CfL.nil))) ?_
    exact hl_rowc (es := jnR ps2) hl_nil (cfl_grR (g := newG x) (v := v')) (by simp [jnR]) (by rw [← lits_gw 0 v' (newG x).ky (newG x).c]; rfl)) ?_
   refine awpX_of rfl ?_
   (repeat' (first | refine r_95e112 ?_ | (refine r_0efca5 (fun hb => ?_) (fun hb => ?_) <;> (try (exfalso; omega))) | fail))
   intro C a w hl hs
   refine ⟨(k + 1, ps2 ++ [(newG x, v')]), ⟨hlt, ?_⟩, (by show s.length - (k + 1) < s.length - k; omega), ?_⟩
   ·show List.map _ (ps2 ++ [(newG x, v')]) = _
    rw [hstep, ← hfold, hjnew, List.map_append, hps2]; rfl
   ·have hq : jnF (ps2 ++ [(newG x, v')]) = jnF ps2 ++ [(v', Blk.row 3 1 (nums .i64 [x.ix]))] := by simp [jnF, newG]
    show SimX C _ (jnF (ps2 ++ [(newG x, v')])) a w
    rw [hq]
    exact LeX.mk [] [] rfl (by (repeat' (first | exact le_nil | refine le_na ?_ | refine le_r ?_ rfl rfl | refine le_int ?_ (by omega) rfl | refine le_ow ?_ rfl rfl | refine le_pt ?_ rfl rfl | refine le_fz ?_ rfl q_bf1c9 rfl rfl | refine le_sv ?_ rfl rfl | refine le_ol ?_ rfl rfl | refine le_ag ?_ ?_ rfl | refine le_cl ?_ ?_ rfl | refine cfl_pt ?_ rfl | refine cfl_r ?_ rfl | refine cfl_rp ?_ rfl | exact CfL.nil))) (hl_row hl_nil rfl rfl) C _ a w hl hs
 ·have hke : k = s.length := by omega
  rw [hke, List.take_length] at hfold
  refine awpX_seqP (T := ⟨[(4, .ow 0), (19, .r (.v (.bool false)))], [(0, some (.row 87 33 (jnR ps)))], 1⟩) rfl (by
   (repeat' (first | refine r_95e112 ?_ | (refine r_0efca5 (fun hb => ?_) (fun hb => ?_) <;> (try (exfalso; omega))) | fail))
   all_goals exact ⟨rfl, by (refine LeX.mk [] [] q_5ec36 q_871b6 q_bbfed)⟩) ?_
  refine awpX_seq (awpX_cond (b := false) rfl (fun h => nomatch h) (fun _ => awpX_exit ?_))
  show awpX _ _ _ _ _ _
  have hpl : ps.length ≤ 1000000 := by
   have h1 := jn_len s []
   rw [← hfold, List.length_map, List.length_nil] at h1
   omega
  clear hlt hke hk
  refine awpX_seqP (T := ⟨[(4, .ow 0), (8, .ow 1)], [(0, some (.row 87 33 (jnR ps))), (1, some (.row 51 12 (List.replicate ps.length zRv)))], 2⟩) rfl (by
   (repeat' (first | refine r_95e112 ?_ | (refine r_0efca5 (fun hb => ?_) (fun hb => ?_) <;> (try (exfalso; omega))) | fail))
   refine ⟨rfl, LeX.mk [] [] rfl (by (repeat' (first | exact le_nil | refine le_na ?_ | refine le_r ?_ rfl rfl | refine le_int ?_ (by omega) rfl | refine le_ow ?_ rfl rfl | refine le_pt ?_ rfl rfl | refine le_fz ?_ rfl q_bf1c9 rfl rfl | refine le_sv ?_ rfl rfl | refine le_ol ?_ rfl rfl | refine le_ag ?_ ?_ rfl | refine le_cl ?_ ?_ rfl | refine cfl_pt ?_ rfl | refine cfl_r ?_ rfl | refine cfl_rp ?_ rfl | exact CfL.nil))) (hl_row (hl_row hl_nil (by rw [hjl]; rfl) rfl) rfl rfl)⟩) ?_
  refine awpX_seq (awpX_seqP (T := jS2 ps (0, [])) rfl (by
   (repeat' (first | refine r_95e112 ?_ | (refine r_0efca5 (fun hb => ?_) (fun hb => ?_) <;> (try (exfalso; omega))) | fail))
   refine ⟨rfl, ?_⟩
   unfold jS2
   exact LeX.mk [] [] rfl (by (repeat' (first | exact le_nil | refine le_na ?_ | refine le_r ?_ rfl rfl | refine le_int ?_ (by omega) rfl | refine le_ow ?_ rfl rfl | refine le_pt ?_ rfl rfl | refine le_fz ?_ rfl q_bf1c9 rfl rfl | refine le_sv ?_ rfl rfl | refine le_ol ?_ rfl rfl | refine le_ag ?_ ?_ rfl | refine le_cl ?_ ?_ rfl | refine cfl_pt ?_ rfl | refine cfl_r ?_ rfl | refine cfl_rp ?_ rfl | exact CfL.nil))) (hl_row (hl_row hl_nil rfl rfl) rfl rfl)) ?_)
  refine awpX_block (awpX_loop (jS2 ps) (fun y => oF y.2 ++ jnF (ps.drop y.1)) (fun y => y.1 ≤ ps.length ∧ y.2.map (·.1) = (ps.take y.1).map (·.1)) (fun y => ps.length - y.1) (0, []) ⟨Nat.zero_le _, rfl⟩ (fun C a w hl hs => hs) ?_)
  rintro ⟨i, ds⟩ ⟨hi, hds⟩
  dsimp only at hi hds ⊢
  unfold jS2
  dsimp only
  have hdl : ds.length = i := by
   have := congrArg List.length hds
   rw [List.length_map, List.length_map, List.length_take] at this; omega
  by_cases hlt : i < ps.length
  ·obtain ⟨⟨g, v⟩, hg⟩ : ∃ p, ps[i]? = some p := ⟨_, List.getElem?_eq_getElem hlt⟩
   have hgR : (jnR ps)[i]? = some (grR g v) := by unfold jnR; rw [List.getElem?_map, hg]; rfl
   have hgi : g.c.ok ∧ g.ss.length ≤ 0 + s.length := jn_inv s (fun y hy => hps.c y hy) [] 0 (fun _ h => nomatch h) g (by rw [← hfold]; exact List.mem_map.2 ⟨(g, v), List.mem_of_getElem? hg, rfl⟩)
   have hgl : g.ss.length ≤ 1000000 := by have := hgi.2; omega
   have hdrop : ps.drop i = (g, v) :: ps.drop (i + 1) := by
    rw [List.drop_eq_getElem_cons hlt]
    congr 1
    rw [List.getElem?_eq_getElem hlt] at hg
    injection hg
   rw [hdrop]
   show awpX _ _ _ _ _ (oF ds ++ (v, .row 3 1 (nums .i64 g.ss)) :: jnF (ps.drop (i + 1)))
   refine awpX_fact (fun C a w hs => hs.slice) ?_
   rintro ⟨va, vm, vc, rfl⟩
   refine awpX_seqP (T := ⟨[(50, .ow 0), (51, .r (.v (.int .i64 (ps.length : Int)))), (52, .r (.v (.int .i64 (i : Int)))), (8, .ow 1), (53, .r (.v (.bool true)))], [(0, some (.row 87 33 (jnR ps))), (1, some (.row 51 12 (oRs ds ++ List.replicate (ps.length - i) zRv)))], 2⟩) rfl (by
    (repeat' (first | refine r_95e112 ?_ | (refine r_0efca5 (fun hb => ?_) (fun hb => ?_) <;> (try (exfalso; omega))) | fail))
    all_goals exact ⟨rfl, by (refine LeX.mk [] [] q_5ec36 q_871b6 q_bbfed)⟩) ?_
   refine awpX_seq (awpX_cond (b := true) rfl (fun _ => awpX_skip ?_) (fun h => nomatch h))
   show awpX _ _ _ _ _ _
   refine awpX_seq (awpX_block ?_)
   refine awpX_seqP (T := ⟨[(50, .ow 0), (51, .r (.v (.int .i64 (ps.length : Int)))), (52, .r (.v (.int .i64 (i : Int)))), (8, .ow 1), (9, .r (.v (.int .i64 (i : Int)))), (10, .pt 2 0)], [(0, some (.row 87 33 (jnR ps))), (1, some (.row 51 12 (oRs ds ++ List.replicate (ps.length - i) zRv))), (2, some (.var 87 (gwC g.ky (.r (.v (.slice va vm vc))) g.c)))], 3⟩) rfl (by
    (repeat' (first | refine r_95e112 ?_ | (refine r_0efca5 (fun hb => ?_) (fun hb => ?_) <;> (try (exfalso; omega))) | fail))
    all_goals refine ⟨rfl, LeX.mk [] [] rfl (by (repeat' (first | exact le_nil | refine le_na ?_ | refine le_r ?_ rfl rfl | refine le_int ?_ (by omega) rfl | refine le_ow ?_ rfl rfl | refine le_pt ?_ rfl rfl | refine le_fz ?_ rfl q_bf1c9 rfl rfl | refine le_sv ?_ rfl rfl | refine le_ol ?_ rfl rfl | refine le_ag ?_ ?_ rfl | refine le_cl ?_ ?_ rfl | refine cfl_pt ?_ rfl | refine cfl_r ?_ rfl | refine cfl_rp ?_ rfl | exact CfL.nil))) ?_⟩
    all_goals exact hl_row (hl_row (hl_var hl_nil (show CfL _ _ _ (gwC g.ky (.r (.v (.slice va vm vc))) g.c) _ from cfl_gwr) rfl) rfl rfl) rfl rfl) ?_
   refine awpX_take (n := 3) (E := [(50, .ow 0), (51, .r (.v (.int .i64 (ps.length : Int)))), (52, .r (.v (.int .i64 (i : Int)))), (8, .ow 1), (9, .r (.v (.int .i64 (i : Int)))), (10, .pt 2 0)]) (H := [(0, some (.row 87 33 (jnR ps))), (1, some (.row 51 12 (oRs ds ++ List.replicate (ps.length - i) zRv))), (2, some (.var 87 (gwC g.ky (.ow 3) g.c)))]) rfl ?_
   have cS := sortI_m g.ss hgl
   refine awpX_seqP (T := ⟨[(50, .ow 0), (51, .r (.v (.int .i64 (ps.length : Int)))), (52, .r (.v (.int .i64 (i : Int)))), (8, .ow 1), (9, .r (.v (.int .i64 (i : Int)))), (10, .pt 2 0)], [(0, some (.row 87 33 (jnR ps))), (1, some (.row 51 12 (oRs ds ++ List.replicate (ps.length - i) zRv))), (2, some (.var 87 (gwC g.ky (.ow 3) g.c))), (3, some (.row 3 1 (nums .i64 (sortZ g.ss))))], 4⟩) rfl (by
    (repeat' (first | refine r_95e112 ?_ | (refine is_f 38 ?_; refine r_5b26f6 (cS) ?_) | (refine r_0efca5 (fun hb => ?_) (fun hb => ?_) <;> (try (exfalso; omega))) | fail))
    exact ⟨rfl, LeX.mk [] [] rfl (by (repeat' (first | exact le_nil | refine le_na ?_ | refine le_r ?_ rfl rfl | refine le_int ?_ (by omega) rfl | refine le_ow ?_ rfl rfl | refine le_pt ?_ rfl rfl | refine le_fz ?_ rfl q_bf1c9 rfl rfl | refine le_sv ?_ rfl rfl | refine le_ol ?_ rfl rfl | refine le_ag ?_ ?_ rfl | refine le_cl ?_ ?_ rfl | refine cfl_pt ?_ rfl | refine cfl_r ?_ rfl | refine cfl_rp ?_ rfl | exact CfL.nil))) (hl_row (hl_row (hl_var (hl_row hl_nil rfl rfl) (cfl_gw rfl) rfl) rfl rfl) rfl rfl)⟩) ?_
   have cC := choose_ok hgi.1
   refine awpX_seqP (T := ⟨[(50, .ow 0), (51, .r (.v (.int .i64 (ps.length : Int)))), (52, .r (.v (.int .i64 (i : Int)))), (8, .ow 1), (9, .r (.v (.int .i64 (i : Int)))), (10, .pt 2 0)], [(0, some (.row 87 33 (jnR ps))), (1, some (.row 51 12 (oRs ds ++ List.replicate (ps.length - i) zRv))), (2, some (.var 87 (gwS g.ky (chC g.c).1 (chC g.c).2 (.ow 3) g.c))), (3, some (.row 3 1 (nums .i64 (sortZ g.ss))))], 4⟩) rfl (by
    (repeat' (first | refine r_95e112 ?_ | (refine is_f 39 ?_; refine r_e7cc0f (cC) ?_) | (refine r_0efca5 (fun hb => ?_) (fun hb => ?_) <;> (try (exfalso; omega))) | fail))
    exact ⟨rfl, LeX.mk [] [] rfl (by (repeat' (first | exact le_nil | refine le_na ?_ | refine le_r ?_ rfl rfl | refine le_int ?_ (by omega) rfl | refine le_ow ?_ rfl rfl | refine le_pt ?_ rfl rfl | refine le_fz ?_ rfl q_bf1c9 rfl rfl | refine le_sv ?_ rfl rfl | refine le_ol ?_ rfl rfl | refine le_ag ?_ ?_ rfl | refine le_cl ?_ ?_ rfl | refine cfl_pt ?_ rfl | refine cfl_r ?_ rfl | refine cfl_rp ?_ rfl | exact CfL.nil))) (hl_row (hl_row (hl_var (hl_row hl_nil rfl rfl) (show CfL _ _ _ (gwS g.ky (chC g.c).1 (chC g.c).2 (.ow 3) g.c) _ from cfl_gwS rfl) rfl) rfl rfl) rfl rfl)⟩) ?_
   refine awpX_put (q := 3) (b := .row 3 1 (nums .i64 (sortZ g.ss))) (F1 := oF ds) (F2 := jnF (ps.drop (i + 1))) rfl rfl fun v' => ?_
   refine awpX_fact (fun C a w hs => hs.slice) ?_
   rintro ⟨va', vm', vc', rfl⟩
   refine awpX_leX (S' := ⟨[(50, .ow 0), (51, .r (.v (.int .i64 (ps.length : Int)))), (52, .r (.v (.int .i64 (i : Int)))), (8, .ow 1), (9, .r (.v (.int .i64 (i : Int)))), (10, .pt 2 0)], [(0, some (.row 87 33 (jnR ps))), (1, some (.row 51 12 (oRs ds ++ List.replicate (ps.length - i) zRv))), (2, some (.var 87 (gwS g.ky (chC g.c).1 (chC g.c).2 (.r (.v (.slice va' vm' vc'))) g.c)))], 3⟩) (by
    refine LeX.mk [] [] rfl (by (repeat' (first | exact le_nil | refine le_na ?_ | refine le_r ?_ rfl rfl | refine le_int ?_ (by omega) rfl | refine le_ow ?_ rfl rfl | refine le_pt ?_ rfl rfl | refine le_fz ?_ rfl q_bf1c9 rfl rfl | refine le_sv ?_ rfl rfl | refine le_ol ?_ rfl rfl | refine le_ag ?_ ?_ rfl | refine le_cl ?_ ?_ rfl | refine cfl_pt ?_ rfl | refine cfl_r ?_ rfl | refine cfl_rp ?_ rfl | exact CfL.nil))) ?_
    exact hl_row (hl_row (hl_var hl_nil cfl_gwSr (by rw [← lits_gwS 3 (.slice va' vm' vc')]; rfl)) rfl rfl) rfl rfl) ?_
   have hoi : (oRs ds ++ List.replicate (ps.length - i) zRv)[i]? = some zRv := by
    rw [List.getElem?_append_right (by simp [oRs, hdl]), List.getElem?_replicate, if_pos (by simp [oRs, hdl]; omega)]
   have hol : (oRs ds ++ List.replicate (ps.length - i) zRv).length = ps.length := by simp [oRs, hdl]; omega
   refine awpX_piece (T := ⟨[(50, .ow 0), (51, .r (.v (.int .i64 (ps.length : Int)))), (52, .r (.v (.int .i64 (i : Int)))), (8, .ow 1)], [(0, some (.row 87 33 (jnR ps))), (1, some (.row 51 12 (oRs (ds ++ [(g, .slice va' vm' vc')]) ++ List.replicate (ps.length - (i + 1)) zRv)))], 2⟩) rfl (by
    (repeat' (first | refine r_95e112 ?_ | (refine r_0efca5 (fun hb => ?_) (fun hb => ?_) <;> (try (exfalso; omega))) | fail))
    have hset : (oRs ds ++ List.replicate (ps.length - i) zRv).set i (oR g (.slice va' vm' vc')) = oRs (ds ++ [(g, .slice va' vm' vc')]) ++ List.replicate (ps.length - (i + 1)) zRv := by
     have h1 : (oRs ds).length = i := by simp [oRs, hdl]
     rw [List.set_append_right _ _ (by omega), h1, Nat.sub_self, show ps.length - i = (ps.length - (i + 1)) + 1 by omega, List.replicate_succ, List.set_cons_zero]
     simp [oRs]
    exact ⟨rfl, LeX.mk [] [] rfl (by (repeat' (first | exact le_nil | refine le_na ?_ | refine le_r ?_ rfl rfl | refine le_int ?_ (by omega) rfl | refine le_ow ?_ rfl rfl | refine le_pt ?_ rfl rfl | refine le_fz ?_ rfl q_bf1c9 rfl rfl | refine le_sv ?_ rfl rfl | refine le_ol ?_ rfl rfl | refine le_ag ?_ ?_ rfl | refine le_cl ?_ ?_ rfl | refine cfl_pt ?_ rfl | refine cfl_r ?_ rfl | refine cfl_rp ?_ rfl | exact CfL.nil))) (hl_row (hl_row hl_nil hset rfl) rfl rfl)⟩) ?_
   show awpX _ _ _ _ _ _
   have hwi : IntKind.i64.wrap ((i : Int) + 1) = ((i + 1 : Nat) : Int) := nat_incI i (by omega)
   refine awpX_of rfl ?_
   (repeat' (first | refine r_95e112 ?_ | (refine r_0efca5 (fun hb => ?_) (fun hb => ?_) <;> (try (exfalso; omega))) | fail))
   intro C a w hl hs
   refine ⟨(i + 1, ds ++ [(g, .slice va' vm' vc')]), ⟨hlt, ?_⟩, (by show ps.length - (i + 1) < ps.length - i; omega), ?_⟩
   ·show List.map _ (ds ++ [(g, .slice va' vm' vc')]) = List.map _ (ps.take (i + 1))
    rw [List.take_add_one, hg, List.map_append, List.map_append, hds]; rfl
   ·have hq : oF (ds ++ [(g, .slice va' vm' vc')]) ++ jnF (ps.drop (i + 1)) = oF ds ++ (.slice va' vm' vc', Blk.row 3 1 (nums .i64 (sortZ g.ss))) :: jnF (ps.drop (i + 1)) := by simp [oF]
    show SimX C _ (oF (ds ++ [(g, .slice va' vm' vc')]) ++ jnF (ps.drop (i + 1))) a w
    rw [hq]
    exact LeX.mk [] [] rfl (by (repeat' (first | exact le_nil | refine le_na ?_ | refine le_r ?_ rfl rfl | refine le_int ?_ (by omega) rfl | refine le_ow ?_ rfl rfl | refine le_pt ?_ rfl rfl | refine le_fz ?_ rfl q_bf1c9 rfl rfl | refine le_sv ?_ rfl rfl | refine le_ol ?_ rfl rfl | refine le_ag ?_ ?_ rfl | refine le_cl ?_ ?_ rfl | refine cfl_pt ?_ rfl | refine cfl_r ?_ rfl | refine cfl_rp ?_ rfl | exact CfL.nil))) (hl_row (hl_row hl_nil rfl rfl) rfl rfl) C _ a w hl hs
  ·have hie : i = ps.length := by omega
   subst hie
   rw [List.take_length] at hds
   rw [List.drop_length, Nat.sub_self]
   refine awpX_seqP (T := ⟨[(8, .ow 0), (53, .r (.v (.bool false)))], [(0, some (.row 51 12 (oRs ds)))], 1⟩) rfl (by
    (repeat' (first | refine r_95e112 ?_ | (refine r_0efca5 (fun hb => ?_) (fun hb => ?_) <;> (try (exfalso; omega))) | fail))
    all_goals refine ⟨rfl, LeX.mk [(0, 1)] [] rfl (by (repeat' (first | exact le_nil | refine le_na ?_ | refine le_r ?_ rfl rfl | refine le_int ?_ (by omega) rfl | refine le_ow ?_ rfl rfl | refine le_pt ?_ rfl rfl | refine le_fz ?_ rfl q_bf1c9 rfl rfl | refine le_sv ?_ rfl rfl | refine le_ol ?_ rfl rfl | refine le_ag ?_ ?_ rfl | refine le_cl ?_ ?_ rfl | refine cfl_pt ?_ rfl | refine cfl_r ?_ rfl | refine cfl_rp ?_ rfl | exact CfL.nil))) (hl_row hl_nil (List.append_nil _) rfl)⟩) ?_
   refine awpX_seq (awpX_cond (b := false) rfl (fun h => nomatch h) (fun _ => awpX_exit ?_))
   show awpX _ _ _ _ _ _
   have hgrs : ds.map (fun p => grO p.1) = (s.foldl jn []).map grO := by
    rw [← hfold, ← hds, List.map_map]; rfl
   refine awpX_end (S' := ⟨[(8, .ow 0), (53, .r (.v (.bool false)))], [(0, some (.row 51 12 ((s.foldl jn []).map grO))), (0, some (.row 51 12 (oRs ds)))], 1⟩) (fun C a w hl hs => ?_) ?_
   ·refine hs.dissolve hl (i := 0) (es := oRs ds) rfl (by rw [← hgrs]; simp [oRs]) ?_ ?_
    ·intro e he
     obtain ⟨g, _, rfl⟩ := List.mem_map.1 he
     rfl
    ·rw [← hgrs]
     exact fz_o ds _ fun p hp => List.mem_append_left _ (List.mem_map.2 ⟨p, hp, rfl⟩)
   ·(repeat' (first | refine r_95e112 ?_ | (refine r_0efca5 (fun hb => ?_) (fun hb => ?_) <;> (try (exfalso; omega))) | fail))
    exact ⟨rfl, ret2 [] (.fr 0 _ _ _ rfl) (.r _) rfl rfl rfl rfl⟩
end Go.Proofs.YtibedaeefnjjlaaGreat
