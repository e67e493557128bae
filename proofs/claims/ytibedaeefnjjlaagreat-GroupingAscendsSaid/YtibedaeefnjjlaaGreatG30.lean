/- Texts of the second layer in one: Gp1. -/
import Derived.Test.YtibedaeefnjjlaaGreatG29
set_option maxRecDepth 100000
set_option linter.unusedVariables false
set_option linter.unusedSimpArgs false
namespace Go.Proofs.YtibedaeefnjjlaaGreat
open Go.RowKit Go.Ab Go.Wd
theorem isNaNI_m (x : Int) : Meets Tryz.prog 99 [.r (.v (.int .i64 x))] [] (.r (.v (.bool false))) [] := by
 refine fn_of Tryz.func99 rfl (Nat.le_of_ble_eq_true rfl) rfl rfl ?_
 (repeat' (first | refine r_4eabd4 ?_ | (refine r_0efca5 (fun hb => ?_) (fun hb => ?_) <;> (try (exfalso; omega))) | fail))
 all_goals (first | (exfalso; omega) | exact ret1 [] (.bool rfl) rfl rfl rfl)
theorem isNaNL_m (x : Int) : Meets Tryz.prog 98 [.r (.v (.int .i64 x))] [] (.r (.v (.bool false))) [] := by
 refine fn_of Tryz.func98 rfl (Nat.le_of_ble_eq_true rfl) rfl rfl ?_
 (repeat' (first | refine r_4eabd4 ?_ | (refine r_0efca5 (fun hb => ?_) (fun hb => ?_) <;> (try (exfalso; omega))) | fail))
 all_goals (first | (exfalso; omega) | exact ret1 [] (.bool rfl) rfl rfl rfl)
theorem cmpI_m (x y : Int) : Meets Tryz.prog 71 [.r (.v (.int .i64 x)), .r (.v (.int .i64 y))] [] (.r (.v (.int .i64 (cmpZ x y)))) [] := by
 have c1 : x < y → (-1 : Int) = cmpZ x y := fun h => by unfold cmpZ; rw [if_pos h]
 have c2 : y < x → (1 : Int) = cmpZ x y := fun h => by unfold cmpZ; rw [if_neg (by omega), if_pos h]
 have c3 : ¬ x < y → ¬ y < x → (0 : Int) = cmpZ x y := fun h g => by unfold cmpZ; rw [if_neg h, if_neg g]
 generalize cmpZ x y = z at *
 refine fn_of Tryz.func71 rfl (Nat.le_of_ble_eq_true rfl) rfl rfl ?_
 (repeat' (first | refine r_4eabd4 ?_ | (refine is_f 99 ?_; refine r_bb2b31 (isNaNI_m x) ?_) | (refine is_f 99 ?_; refine r_bb2b31 (isNaNI_m y) ?_) | (refine r_0efca5 (fun hb => ?_) (fun hb => ?_) <;> (try (exfalso; omega))) | fail))
 all_goals (first | (exfalso; omega) | exact ret1 [] (.int (c1 (by omega))) rfl rfl rfl | exact ret1 [] (.int (c2 (by omega))) rfl rfl rfl | exact ret1 [] (.int (c3 (by omega) (by omega))) rfl rfl rfl)
theorem cmpL_m (x y : Int) : Meets Tryz.prog 69 [.r (.v (.int .i64 x)), .r (.v (.int .i64 y))] [] (.r (.v (.int .i64 (cmpZ x y)))) [] := by
 have c1 : x < y → (-1 : Int) = cmpZ x y := fun h => by unfold cmpZ; rw [if_pos h]
 have c2 : y < x → (1 : Int) = cmpZ x y := fun h => by unfold cmpZ; rw [if_neg (by omega), if_pos h]
 have c3 : ¬ x < y → ¬ y < x → (0 : Int) = cmpZ x y := fun h g => by unfold cmpZ; rw [if_neg h, if_neg g]
 generalize cmpZ x y = z at *
 refine fn_of Tryz.func69 rfl (Nat.le_of_ble_eq_true rfl) rfl rfl ?_
 (repeat' (first | refine r_4eabd4 ?_ | (refine is_f 98 ?_; refine r_bb2b31 (isNaNL_m x) ?_) | (refine is_f 98 ?_; refine r_bb2b31 (isNaNL_m y) ?_) | (refine r_0efca5 (fun hb => ?_) (fun hb => ?_) <;> (try (exfalso; omega))) | fail))
 all_goals (first | (exfalso; omega) | exact ret1 [] (.int (c1 (by omega))) rfl rfl rfl | exact ret1 [] (.int (c2 (by omega))) rfl rfl rfl | exact ret1 [] (.int (c3 (by omega) (by omega))) rfl rfl rfl)
structure Cn where
 o : Bool
 p : Int
 q : Int
 r : Int
 s : Int
 deriving DecidableEq, Inhabited
structure Pc where
 ix : Int
 ct : Int
 ky : Int
 c : Cn
 deriving DecidableEq, Inhabited
def Cn.A (c : Cn) : AV := cn c.o c.p c.q c.r c.s
def Cn.ok (c : Cn) : Prop := (c.o = true ∧ c.p = 0 ∧ c.q = 0 ∧ c.r = 0 ∧ c.s = 0) ∨ (c.o = false ∧ VC c.p c.q c.r c.s)
def pcVs (x : Pc) : List Value := .int .i64 x.ix :: .int .i64 x.ct :: .int .i64 x.ky :: cnVs x.c.o x.c.p x.c.q x.c.r x.c.s
def pcA (x : Pc) : AV := .ag (vsA (pcVs x))
def cmpC (a b : Cn) : Int := if a.o then (if b.o then 0 else -1) else if b.o then 1 else orL [cmpZ (a.p * b.q) (b.p * a.q), cmpZ (a.r * b.s) (b.r * a.s)]
def cmpP (a b : Pc) : Int := orL [cmpZ a.ky b.ky, cmpC a.c b.c, cmpZ a.ix b.ix]
set_option maxHeartbeats 2000000 in
theorem cones11_m (p q r s p' q' r' s' : Int) : Meets Tryz.prog 70 [cn true p q r s, cn true p' q' r' s'] [] (.r (.v (.int .i64 0))) [] := by
 refine fn_of Tryz.func70 rfl (Nat.le_of_ble_eq_true rfl) rfl rfl ?_
 (repeat' (first | refine r_4eabd4 ?_ | (refine r_0efca5 (fun hb => ?_) (fun hb => ?_) <;> (try (exfalso; omega))) | fail))
 all_goals (first | (exfalso; omega) | exact absurd rfl hb | exact ret1 [] (.int rfl) rfl rfl rfl)
set_option maxHeartbeats 2000000 in
theorem cones10_m (p q r s p' q' r' s' : Int) : Meets Tryz.prog 70 [cn true p q r s, cn false p' q' r' s'] [] (.r (.v (.int .i64 (-1)))) [] := by
 refine fn_of Tryz.func70 rfl (Nat.le_of_ble_eq_true rfl) rfl rfl ?_
 (repeat' (first | refine r_4eabd4 ?_ | (refine r_0efca5 (fun hb => ?_) (fun hb => ?_) <;> (try (exfalso; omega))) | fail))
 all_goals (first | (exfalso; omega) | exact absurd rfl hb | exact ret1 [] (.int rfl) rfl rfl rfl)
set_option maxHeartbeats 2000000 in
theorem cones01_m (p q r s p' q' r' s' : Int) : Meets Tryz.prog 70 [cn false p q r s, cn true p' q' r' s'] [] (.r (.v (.int .i64 1))) [] := by
 refine fn_of Tryz.func70 rfl (Nat.le_of_ble_eq_true rfl) rfl rfl ?_
 (repeat' (first | refine r_4eabd4 ?_ | (refine r_0efca5 (fun hb => ?_) (fun hb => ?_) <;> (try (exfalso; omega))) | fail))
 all_goals (first | (exfalso; omega) | exact absurd rfl hb | exact ret1 [] (.int rfl) rfl rfl rfl)
set_option maxHeartbeats 4000000 in
theorem cones00_m (p q r s p' q' r' s' : Int) (h : VC p q r s) (h' : VC p' q' r' s') : Meets Tryz.prog 70 [cn false p q r s, cn false p' q' r' s'] [] (.r (.v (.int .i64 (orL [cmpZ (p * q') (p' * q), cmpZ (r * s') (r' * s)])))) [] := by
 have c1 := cmpQ_m p q p' q' h.1 h'.1
 have c2 := cmpQ_m r s r' s' h.2.1 h'.2.1
 generalize cmpZ (p * q') (p' * q) = z1 at *
 generalize cmpZ (r * s') (r' * s) = z2 at *
 have cO := cmpOr_m [z1, z2] (by simp)
 generalize orL [z1, z2] = r at *
 have hE : [[.v (.int .i64 z1)], [.v (.int .i64 z2)]] = nums .i64 [z1, z2] := rfl
 refine fn_of Tryz.func70 rfl (Nat.le_of_ble_eq_true rfl) rfl rfl ?_
 (repeat' (first | refine r_4eabd4 ?_ | (refine is_f 95 ?_; refine r_bb2b31 (c1) ?_) | (refine is_f 95 ?_; refine r_bb2b31 (c2) ?_) | (refine is_f 68 ?_; refine r_bede7e (cO) ?_) | (refine r_0efca5 (fun hb => ?_) (fun hb => ?_) <;> (try (exfalso; omega))) | fail))
 all_goals (first | (exfalso; omega) | exact absurd rfl hb | exact ret1 [] (.int rfl) rfl rfl rfl)
theorem cones_m (a b : Cn) (ha : a.ok) (hb : b.ok) : Meets Tryz.prog 70 [a.A, b.A] [] (.r (.v (.int .i64 (cmpC a b)))) [] := by
 obtain ⟨o, p, q, r, s⟩ := a
 obtain ⟨o', p', q', r', s'⟩ := b
 unfold cmpC Cn.A
 rcases ha with ⟨h1, h2, h3, h4, h5⟩ | ⟨h1, h2⟩ <;> rcases hb with ⟨g1, g2, g3, g4, g5⟩ | ⟨g1, g2⟩ <;> dsimp only at * <;> subst h1 g1
 ·exact cones11_m p q r s p' q' r' s'
 ·exact cones10_m p q r s p' q' r' s'
 ·exact cones01_m p q r s p' q' r' s'
 ·exact cones00_m p q r s p' q' r' s' h2 g2
set_option maxHeartbeats 4000000 in
theorem compareP_m (a b : Pc) (ha : a.c.ok) (hb : b.c.ok) : Meets Tryz.prog 36 [pcA a, pcA b] [] (.r (.v (.int .i64 (cmpP a b)))) [] := by
 have c1 := cmpL_m a.ky b.ky
 have c2 := cones_m a.c b.c ha hb
 have c3 := cmpI_m a.ix b.ix
 unfold cmpP
 generalize cmpZ a.ky b.ky = z1 at *
 generalize cmpC a.c b.c = z2 at *
 generalize cmpZ a.ix b.ix = z3 at *
 have cO := cmpOr_m [z1, z2, z3] (by simp)
 generalize orL [z1, z2, z3] = r at *
 have hE : [[.v (.int .i64 z1)], [.v (.int .i64 z2)], [.v (.int .i64 z3)]] = nums .i64 [z1, z2, z3] := rfl
 clear ha hb
 refine fn_of Tryz.func36 rfl (Nat.le_of_ble_eq_true rfl) rfl rfl ?_
 (repeat' (first | refine r_4eabd4 ?_ | (refine is_f 69 ?_; refine r_bb2b31 (c1) ?_) | (refine is_f 70 ?_; refine r_bb2b31 (c2) ?_) | (refine is_f 71 ?_; refine r_bb2b31 (c3) ?_) | (refine is_f 68 ?_; refine r_bede7e (cO) ?_) | (refine r_0efca5 (fun hb => ?_) (fun hb => ?_) <;> (try (exfalso; omega))) | fail))
 all_goals (first | (exfalso; omega) | exact ret1 [] (.int rfl) rfl rfl rfl)
end Go.Proofs.YtibedaeefnjjlaaGreat
