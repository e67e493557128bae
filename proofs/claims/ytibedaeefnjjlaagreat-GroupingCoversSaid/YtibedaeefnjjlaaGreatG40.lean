/- Texts of the second layer in one: Jn0. -/
import Derived.Test.YtibedaeefnjjlaaGreatG35
import Derived.Test.YtibedaeefnjjlaaGreatG34
/- Chapter 21: groups whose starts are an own slice: how (*group).take is called. No conditions. --ext8 -/
namespace Go.Proofs.YtibedaeefnjjlaaGreat
open Go.RowKit Go.Ab Go.Wd
set_option maxRecDepth 100000
set_option linter.unusedVariables false
set_option linter.unusedSimpArgs false

theorem cfl_vsA {H : Nat → Option Blk} {ρ : Nat → Nat} {G : List Nat} {cs ds : List AV} : ∀ (vs : List Value) (_ : CfL H ρ G cs ds), CfL H ρ G (vsA vs ++ cs) (vsA vs ++ ds)
  | [], h => h
  | v :: vs, h => .cons _ _ _ _ (.r _) (cfl_vsA vs h)
theorem cfl_vsA0 {H : Nat → Option Blk} {ρ : Nat → Nat} {G : List Nat} (vs : List Value) : CfL H ρ G (vsA vs) (vsA vs) := by
  have := cfl_vsA (H := H) (ρ := ρ) (G := G) vs .nil
  rwa [List.append_nil] at this
theorem cfl_gw {H : Nat → Option Blk} {ρ : Nat → Nat} {G : List Nat} {ky : Int} {i j : Nat} {c : Cn} (e : ρ i = j) : CfL H ρ G (gwC ky (.ow j) c) (gwC ky (.ow i) c) := by
  subst e
  exact .cons _ _ _ _ (.r _) (cfl_vsA _ (.cons _ _ _ _ (.ow _) (cfl_vsA0 _)))
theorem cfl_gwr {H : Nat → Option Blk} {ρ : Nat → Nat} {G : List Nat} {ky : Int} {v : Value} {c : Cn} : CfL H ρ G (gwC ky (.r (.v v)) c) (gwC ky (.r (.v v)) c) :=
  .cons _ _ _ _ (.r _) (cfl_vsA _ (.cons _ _ _ _ (.r _) (cfl_vsA0 _)))
theorem unfrs_vsA : ∀ (vs : List Value) (cs : List AV) (k : Nat), AV.unfrs (vsA vs ++ cs) k = (vsA vs ++ (AV.unfrs cs k).1, (AV.unfrs cs k).2)
  | [], cs, k => rfl
  | v :: vs, cs, k => by
    show AV.unfrs (.r (.v v) :: (vsA vs ++ cs)) k = _
    rw [AV.unfrs]
    simp only [AV.unfr, List.length_nil, Nat.add_zero, List.nil_append]
    rw [unfrs_vsA vs cs k]
    rfl
theorem unfrs_vsA0 (vs : List Value) (k : Nat) : AV.unfrs (vsA vs) k = (vsA vs, []) := by
  have := unfrs_vsA vs [] k
  rw [List.append_nil] at this
  rw [this, AV.unfrs]; simp
theorem unfrs_gw (ky : Int) (s : AV) (c : Cn) (k : Nat) (h : (s.unfr k).2.length = (s.unfr k).2.length) : AV.unfrs (gwC ky s c) k = (gwC ky (s.unfr k).1 c, (s.unfr k).2) := by
  unfold gwC
  rw [AV.unfrs]
  simp only [AV.unfr, List.length_nil, Nat.add_zero, List.nil_append]
  rw [unfrs_vsA, AV.unfrs]
  simp only [unfrs_vsA0, List.append_nil]
theorem rens_vsA (j : Nat → Nat) : ∀ (vs : List Value) (cs : List AV), AV.rens j (vsA vs ++ cs) = vsA vs ++ AV.rens j cs
  | [], cs => rfl
  | v :: vs, cs => by
    show AV.rens j (.r (.v v) :: (vsA vs ++ cs)) = _
    rw [AV.rens, rens_vsA j vs cs]; rfl
theorem rens_vsA0 (j : Nat → Nat) (vs : List Value) : AV.rens j (vsA vs) = vsA vs := by
  have := rens_vsA j vs []
  rw [List.append_nil] at this
  rw [this, AV.rens, List.append_nil]
theorem rens_gw (j : Nat → Nat) (ky : Int) (s : AV) (c : Cn) : AV.rens j (gwC ky s c) = gwC ky (s.ren j) c := by
  unfold gwC
  rw [AV.rens, rens_vsA, AV.rens, rens_vsA0]; rfl
theorem idss_vsA (vs : List Value) (cs : List AV) : AV.idss (vsA vs ++ cs) = AV.idss cs := by
  induction vs with
  | nil => rfl
  | cons v vs ih => show AV.idss (.r (.v v) :: (vsA vs ++ cs)) = _; rw [AV.idss, ih]; rfl
theorem idss_vsA0 (vs : List Value) : AV.idss (vsA vs) = [] := by
  have := idss_vsA vs []
  rw [List.append_nil] at this
  rw [this]; rfl
theorem idss_gw (ky : Int) (s : AV) (c : Cn) : AV.idss (gwC ky s c) = s.ids := by
  unfold gwC
  rw [AV.idss, idss_vsA, AV.idss, idss_vsA0, List.append_nil]; rfl
section
variable {P : Program} {L : Ln} {N : Nat} {ops : Array Oper} {chk : List (Nat × Sp) → Bool} {Q : St → Prop} {l : List Oper} {E : List (Nat × AV)} {H : List (Nat × Option Blk)} {n : Nat} {tr : List (Nat × Sp)}
variable {d : Nat} {ty : TypeId} {pos : String} {af : Array Edge} {g : Option (Nat × Bool)}
theorem w_callX' {f : FuncId} {xs : Array Operand} {ats : Array TypeId} {ds : List AV} {r : AV} (J : List Nat) (pre : List Blk) (post : List (Option Blk)) (pre' : List Blk) (UP : List (Option Blk)) (UB : List Blk) (PX : List (Option Blk)) (hm : MeetsX P f ds pre r post) (hr : r.unfr n = (r, [])) (hu : unfrP post n = (UP, UB)) (hpx : UP.map (Option.map (Blk.ren (jren J))) = PX)
    (hargs : CfL (getH H) (fun i => J.getD i 0) [] (xs.toList.map (evA (get E))) ds) (hf : callB P f = true)
    (hH : ∀ i b, (i, b) ∈ rdOf J pre' → getH H i = some b) (hcf : CfBs (getH H) (fun i => J.getD i 0) pre' pre) (hpre : preX J n UB.length pre post UP ds L = true) (hrng : rngB r n UB.length = true)
    (hd : Nat.blt d N = true) (hg : Wanted ops (get E) ⟨some d, .call { callee := .value (.func f), args := xs, argTypes := ats }, ty, pos, af, g⟩ true)
    (h : wpA P L N ops chk Q l ⟨(d, r) :: E, frsL n UB ++ (pairs J PX ++ H), n + UB.length⟩ ((n, ⟨true, rdOf J pre', r, pairs J PX, UB⟩) :: tr)) :
    wpA P L N ops chk Q (⟨some d, .call { callee := .value (.func f), args := xs, argTypes := ats }, ty, pos, af, g⟩ :: l) ⟨E, H, n⟩ tr := by
  have e0 : unfrP post (n + (r.unfr n).2.length) = (UP, UB) := by rw [hr]; exact hu
  have e1 : frsX n r post = UB := by unfold frsX; rw [e0, hr]; rfl
  have e2 : postX J n r post = PX := by unfold postX; rw [e0]; exact hpx
  refine w_callX J pre post pre' hm hargs hf hH hcf (by rw [e1, e0]; exact hpre) (by rw [e1, hr]; exact hrng) hd hg ?_
  rw [e1, e2, hr]
  exact h
/-- (*group).take, where the piece fits: the starts are the slice 2, the groups the slice 0. -/
theorem w_takeY {a b : Operand} {ats : Array TypeId} {es : List (List RV)} {ky : Int} {st : List Int} {c c' : Cn} {x : Pc} (hst : st.length ≤ 1000000) (hc : c.ok) (hx : x.c.ok) (hm : meetC c x.c = some c') (hk : ky = x.ky)
    (hE1 : evA (get E) a = .pe 0 33 es.length 0) (hE2 : evA (get E) b = pcA x) (hH0 : getH H 0 = some (.rowo 87 33 es (gwC ky (.ow 2) c))) (hH2 : getH H 2 = some (.row 3 1 (nums .i64 st)))
    (hd : Nat.blt d N = true) (hg : Wanted ops (get E) ⟨some d, .call { callee := .value (.func 37), args := #[a, b], argTypes := ats }, ty, pos, af, g⟩ true)
    (h : wpA Tryz.prog ⟨3, 3⟩ N ops chk Q l ⟨(d, .r (.v (.bool true))) :: E, (3, some (.row 3 1 (nums .i64 (st ++ [x.ix])))) :: (2, none) :: (0, some (.rowo 87 33 es (gwC ky (.ow 3) c'))) :: H, 4⟩
      ((3, ⟨true, [(2, .row 3 1 (nums .i64 st)), (0, .rowo 87 33 es (gwC ky (.ow 2) c))], .r (.v (.bool true)), [(2, none), (0, some (.rowo 87 33 es (gwC ky (.ow 3) c')))], [.row 3 1 (nums .i64 (st ++ [x.ix]))]⟩) :: tr)) :
    wpA Tryz.prog ⟨3, 3⟩ N ops chk Q (⟨some d, .call { callee := .value (.func 37), args := #[a, b], argTypes := ats }, ty, pos, af, g⟩ :: l) ⟨E, H, 3⟩ tr := by
  have hm := take_yes es ky st c c' x hst hc hx hm hk
  have hids : Blk.ids (.rowo 87 33 es (gwC ky (.ow 0) c)) = [0] := idss_gw _ _ _
  have hids3 : Blk.ids (.rowo 87 33 es (gwC ky (.ow 3) c')) = [3] := idss_gw _ _ _
  refine w_callX' [2, 0] _ _ [.row 3 1 (nums .i64 st), .rowo 87 33 es (gwC ky (.ow 2) c)] [none, some (.rowo 87 33 es (gwC ky (.ow 3) c'))] [.row 3 1 (nums .i64 (st ++ [x.ix]))] [none, some (.rowo 87 33 es (gwC ky (.ow 3) c'))] hm rfl ?_ ?_ ?_ (by kernel_rfl) ?_ ?_ ?_ ?_ hd hg h
  · rw [unfrP, unfrP, unfrB, unfrs_gw _ _ _ _ rfl, unfrP]; rfl
  · show [none, some (Blk.rowo 87 33 es (AV.rens (jren [2, 0]) (gwC ky (.ow 3) c')))] = _
    rw [rens_gw]; rfl
  · show CfL _ _ _ [evA (get E) a, evA (get E) b] [_, _]
    rw [hE1, hE2]
    exact .cons _ _ _ _ (Cf.pe 1 33 es.length 0) (.cons _ _ _ _ (.ag _ _ (cfl_vsA0 _)) .nil)
  · intro i b' h'
    simp only [rdOf, List.mem_cons, List.not_mem_nil, or_false, Prod.mk.injEq] at h'
    rcases h' with ⟨rfl, rfl⟩ | ⟨rfl, rfl⟩
    · exact hH2
    · exact hH0
  · exact .cons _ _ _ _ (.row _ _ _) (.cons _ _ _ _ (.rowo _ _ _ _ _ (cfl_gw rfl)) .nil)
  · unfold preX
    simp only [List.all_cons, List.all_nil, hids, hids3]
    have : AV.idss [AV.pe 1 33 es.length 0, pcA x] = [1] := by
      have h1 : (pcA x).ids = [] := idss_vsA0 _
      show [1] ++ ((pcA x).ids ++ []) = [1]
      rw [h1]; rfl
    rw [this]
    rfl
  · rfl
/-- (*group).take, where the piece does not fit: the starts are the slice 2, the groups the slice 0. -/
theorem w_takeN {a b : Operand} {ats : Array TypeId} {es : List (List RV)} {ky : Int} {st : List Int} {c : Cn} {x : Pc} (hc : c.ok) (hx : x.c.ok) (hn : ∀ c', meetC c x.c = some c' → ky ≠ x.ky)
    (hE1 : evA (get E) a = .pe 0 33 es.length 0) (hE2 : evA (get E) b = pcA x) (hH0 : getH H 0 = some (.rowo 87 33 es (gwC ky (.ow 2) c))) (hH2 : getH H 2 = some (.row 3 1 (nums .i64 st)))
    (hd : Nat.blt d N = true) (hg : Wanted ops (get E) ⟨some d, .call { callee := .value (.func 37), args := #[a, b], argTypes := ats }, ty, pos, af, g⟩ true)
    (h : wpA Tryz.prog ⟨3, 3⟩ N ops chk Q l ⟨(d, .r (.v (.bool false))) :: E, (2, some (.row 3 1 (nums .i64 st))) :: (0, some (.rowo 87 33 es (gwC ky (.ow 2) c))) :: H, 3⟩
      ((3, ⟨true, [(2, .row 3 1 (nums .i64 st)), (0, .rowo 87 33 es (gwC ky (.ow 2) c))], .r (.v (.bool false)), [(2, some (.row 3 1 (nums .i64 st))), (0, some (.rowo 87 33 es (gwC ky (.ow 2) c)))], []⟩) :: tr)) :
    wpA Tryz.prog ⟨3, 3⟩ N ops chk Q (⟨some d, .call { callee := .value (.func 37), args := #[a, b], argTypes := ats }, ty, pos, af, g⟩ :: l) ⟨E, H, 3⟩ tr := by
  have hm : MeetsX Tryz.prog 37 [.pe 1 33 es.length 0, pcA x] [.row 3 1 (nums .i64 st), .rowo 87 33 es (gwC ky (.ow 0) c)] (.r (.v (.bool false)))
      [some (.row 3 1 (nums .i64 st)), some (.rowo 87 33 es (gwC ky (.ow 0) c))] := by
    cases hm : meetC c x.c with
    | none => exact take_apart es ky st c x hc hx hm
    | some c' => exact take_other es ky st c c' x hc hx hm (hn c' hm)
  have hids : Blk.ids (.rowo 87 33 es (gwC ky (.ow 0) c)) = [0] := idss_gw _ _ _
  refine w_callX' [2, 0] _ _ [.row 3 1 (nums .i64 st), .rowo 87 33 es (gwC ky (.ow 2) c)] [some (.row 3 1 (nums .i64 st)), some (.rowo 87 33 es (gwC ky (.ow 0) c))] [] [some (.row 3 1 (nums .i64 st)), some (.rowo 87 33 es (gwC ky (.ow 2) c))] hm rfl ?_ ?_ ?_ (by kernel_rfl) ?_ ?_ ?_ ?_ hd hg h
  · rw [unfrP, unfrB, unfrP, unfrB, unfrs_gw _ _ _ _ rfl, unfrP]; rfl
  · show [some (Blk.row 3 1 (nums .i64 st)), some (Blk.rowo 87 33 es (AV.rens (jren [2, 0]) (gwC ky (.ow 0) c)))] = _
    rw [rens_gw]; rfl
  · show CfL _ _ _ [evA (get E) a, evA (get E) b] [_, _]
    rw [hE1, hE2]
    exact .cons _ _ _ _ (Cf.pe 1 33 es.length 0) (.cons _ _ _ _ (.ag _ _ (cfl_vsA0 _)) .nil)
  · intro i b' h'
    simp only [rdOf, List.mem_cons, List.not_mem_nil, or_false, Prod.mk.injEq] at h'
    rcases h' with ⟨rfl, rfl⟩ | ⟨rfl, rfl⟩
    · exact hH2
    · exact hH0
  · exact .cons _ _ _ _ (.row _ _ _) (.cons _ _ _ _ (.rowo _ _ _ _ _ (cfl_gw rfl)) .nil)
  · unfold preX
    simp only [List.all_cons, List.all_nil, hids]
    have : AV.idss [AV.pe 1 33 es.length 0, pcA x] = [1] := by
      have h1 : (pcA x).ids = [] := idss_vsA0 _
      show [1] ++ ((pcA x).ids ++ []) = [1]
      rw [h1]; rfl
    rw [this]
    rfl
  · rfl
end
end Go.Proofs.YtibedaeefnjjlaaGreat
