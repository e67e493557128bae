/- Texts of the second layer in one: Wr3 Wr5 Wr6 Wr7 Wr9 Rr1 Rr2 Rr3 Rc1 Rc2. -/
import Derived.Test.YtibedaeefnjjlaaGreatG47
import Derived.Test.YtibedaeefnjjlaaGreatG29
import Derived.Test.YtibedaeefnjjlaaGreatG31
import Derived.Test.YtibedaeefnjjlaaGreatG28
import Derived.Test.YtibedaeefnjjlaaGreatG33
/- The reference's magnitudes: size, half. Conditions: lengths. --ext6 -/
namespace Go.Proofs.YtibedaeefnjjlaaGreat
open Go.RowKit Go.Ab Go.Wd
set_option maxRecDepth 100000
set_option linter.unusedVariables false
set_option linter.unusedSimpArgs false

def rhS (l : List Nat) (i : Nat) : St := ⟨[(0, .ow 0), (3, .r (.v (.int .i64 (i : Int))))], [(0, some (.row 33 1 (wns l)))], 1⟩
/-- The words of a half, in place: the first i are done. -/
def hfL (n i : Nat) (l : List Nat) : List Nat := (List.range l.length).map fun p => if p < i then wo (n / 2) p else wo n p
end Go.Proofs.YtibedaeefnjjlaaGreat

/- The reference's magnitudes: divmod of numbers of one word. Conditions: ranges. --ext6 -/
namespace Go.Ab
open Go.RowKit
theorem Meets.freezeFF {P : Program} {f : FuncId} {args : List AV} {T sz T' sz' : Nat} {es es' : List (List RV)} (h : Meets P f args [] (.tu [.fr T sz es, .fr T' sz' es']) []) : Meets P f args [] (.tu [.r (.sl sz es), .r (.sl sz' es')]) [] := by
  intro w Z M k us hM hk hargs hpre hd
  refine (h w Z M k us hM hk hargs hpre hd).mono fun e w' ⟨v, he, Z', A⟩ => ⟨v, he, Z, fun _ _ => rfl, ?_, fun i b h => by simp [callSp, numdP] at h, fun j b h => by simp [callSp, AV.unfr, AV.unfrs] at h, fun j j' x h => by simp [callSp, AV.unfr, AV.unfrs] at h, fun j x h => by simp [callSp, AV.unfr, AV.unfrs] at h, A.upto⟩
  have h1 := A.out
  have h2 := A.fr 0 (.row T sz es) (by simp [callSp, AV.unfr, AV.unfrs])
  have h3 := A.fresh 0
  have g2 := A.fr 1 (.row T' sz' es') (by simp [callSp, AV.unfr, AV.unfrs])
  have g3 := A.fresh 1
  simp only [callSp, AV.unfr, AV.unfrs, AV.rep, AV.reps, Nat.add_zero] at h1 h2 h3 g2 g3 ⊢
  obtain ⟨us', e1, u, us2, e2, h5, u', us3, e4, h6, e5⟩ := h1
  refine ⟨us', e1, u, us2, e2, ?_, u', us3, e4, ?_, e5⟩
  · rw [h5]
    refine row_read h2 (fun q _ hq => hq.imp (fun h => h) (fun ⟨j, hj, _⟩ => by simp at hj)) fun x hx hn => ?_
    have h4 := h3 x (by simp) hx
    rcases hn with h0 | ⟨j, hj, _⟩
    · rcases h4 with h4 | ⟨i, hi, _⟩
      · have := hM x h0; omega
      · simp [numdP] at hi
    · simp at hj
  · rw [h6]
    refine row_read g2 (fun q _ hq => hq.imp (fun h => h) (fun ⟨j, hj, _⟩ => by simp at hj)) fun x hx hn => ?_
    have h4 := g3 x (by simp) hx
    rcases hn with h0 | ⟨j, hj, _⟩
    · rcases h4 with h4 | ⟨i, hi, _⟩
      · have := hM x h0; omega
      · simp [numdP] at hi
    · simp at hj
end Go.Ab
namespace Go.Proofs.YtibedaeefnjjlaaGreat
open Go.RowKit Go.Ab Go.Wd
set_option maxRecDepth 100000
set_option linter.unusedVariables false
set_option linter.unusedSimpArgs false

theorem u64_tdiv (a b : Nat) (ha : a < B64) : IntKind.u64.wrap (Int.tdiv (a : Int) (b : Int)) = ((a / b : Nat) : Int) := by
  have h : Int.tdiv (a : Int) (b : Int) = ((a / b : Nat) : Int) := by rw [Int.tdiv_eq_ediv_of_nonneg (by omega)]; simp
  have h2 : a / b ≤ a := Nat.div_le_self _ _
  rw [h]
  generalize a / b = q at *
  rw [IntKind.wrap_u64]; unfold B64 at ha; omega
theorem u64_tmod (a b : Nat) : Int.tmod (a : Int) (b : Int) = ((a % b : Nat) : Int) := by
  rw [Int.tmod_eq_emod_of_nonneg (by omega)]; simp
/-- Div64 of a number of one word. -/
theorem div64z_m (x y : Nat) (hx : x < B64) (hy : y < B64) (hy0 : y ≠ 0) : Meets Tryz.prog 118 [.r (.v (.int .u64 0)), .r (.v (.int .u64 (x : Int))), .r (.v (.int .u64 (y : Int)))] [] (.tu [.r (.v (.int .u64 ((x / y : Nat) : Int))), .r (.v (.int .u64 ((x % y : Nat) : Int)))]) [] := by
  have h1 := u64_tdiv x y hx
  have h2 := u64_tmod x y
  have hy1 : (y : Int) ≠ 0 := by omega
  generalize x / y = q at *
  generalize x % y = r at *
  refine fn_of Tryz.func118 rfl (Nat.le_of_ble_eq_true rfl) rfl rfl ?_
  (repeat' (first | refine r_4eabd4 ?_ | (refine r_48b933 (fun hb => ?_) (fun hb => ?_) <;> (try (exfalso; omega))) | (refine awp_cond rfl (fun hb => ?_) (fun hb => ?_) <;> (try simp only [Bool.not_eq_true', Bool.not_eq_false', decide_eq_true_eq, decide_eq_false_iff_not] at hb) <;> (try (exfalso; omega)))))
  all_goals (first | (exfalso; omega) | exact ret2 [] (.int rfl) (.int rfl) rfl rfl rfl rfl)
theorem tw_one {x : Nat} (h : x ≠ 0) (hx : x < B64) : tw x = [x] := by
  rw [tw_pos h, Nat.mod_eq_of_lt hx, Nat.div_eq_of_lt hx, tw_zero]
theorem trim_one (x : Nat) (hx : x < B64) : trim [x] = tw x := by
  rw [trim_tw [x] (fun a ha => by simp at ha; subst ha; exact hx)]
  simp [val]
def rd1S (xs ys ql : List Nat) (rr : Nat) (z : Int) : St := ⟨[(0, .r (.sl 1 (wns xs))), (1, .r (.sl 1 (wns ys))), (6, .ow 0), (7, .r (.v (.int .u64 (rr : Int)))), (8, .r (.v (.int .i64 z)))], [(0, some (.row 33 1 (wns ql)))], 1⟩
theorem refDivmodS_m (x y : Nat) (hx : x < B64) (hy : y < B64) (hy0 : y ≠ 0) : Meets Tryz.prog 85 [.r (.sl 1 (wns (tw x))), .r (.sl 1 (wns (tw y)))] [] (.tu [.r (.sl 1 (wns (tw (x / y)))), .r (.sl 1 (wns (tw (x % y))))]) [] := by
  have hq : x / y < B64 := Nat.lt_of_le_of_lt (Nat.div_le_self _ _) hx
  have hr : x % y < B64 := Nat.lt_of_le_of_lt (Nat.mod_le _ _) hx
  have cD := div64z_m x y hx hy hy0
  rw [tw_one hy0 hy]
  refine Meets.freezeFF (T := 33) (T' := 33) ?_
  by_cases h0 : x = 0
  · subst h0
    have cA := trim_o [] (by simp)
    have cB := trim_o [0] (by simp)
    rw [show trim [] = [] from rfl] at cA
    rw [trim_one 0 (by decide), tw_zero] at cB
    rw [Nat.zero_div, Nat.zero_mod, tw_zero]
    have l0 : (wns []).length = 0 := rfl
    have hrep : List.replicate (wns []).length (List.map RV.v [Value.int IntKind.u64 0]) = wns [] := rfl
    have l1 : (wns [y]).length = 1 := rfl
    clear hq hr hx cD
    refine fn_of Tryz.func85 rfl (Nat.le_of_ble_eq_true rfl) rfl rfl ?_
    (repeat' (first | refine r_4eabd4 ?_ | (refine r_48b933 (fun hb => ?_) (fun hb => ?_) <;> (try (exfalso; omega))) | (refine awp_cond rfl (fun hb => ?_) (fun hb => ?_) <;> (try simp only [Bool.not_eq_true', Bool.not_eq_false', decide_eq_true_eq, decide_eq_false_iff_not] at hb) <;> (try (exfalso; omega)))))
    all_goals (first | (exfalso; omega) | skip)
    refine awp_loop' (fun _ : Unit => rd1S [] [y] [] 0 (-1)) (fun _ => True) (fun _ => 0) () trivial (by (refine Le.mk [(0,0)] [] q_5ec36 q_43730 q_16bb5 q_509a2)) fun u _ => ?_
    change awp _ _ _ _ _ (rd1S [] [y] [] 0 (-1))
    (repeat' (first | refine r_4eabd4 ?_ | (refine is_f 115 ?_; refine r_181b4d (cA) ?_) | (refine is_f 115 ?_; refine r_e0b6b3 (cB) ?_) | (refine r_48b933 (fun hb => ?_) (fun hb => ?_) <;> (try (exfalso; omega))) | (refine awp_cond rfl (fun hb => ?_) (fun hb => ?_) <;> (try simp only [Bool.not_eq_true', Bool.not_eq_false', decide_eq_true_eq, decide_eq_false_iff_not] at hb) <;> (try (exfalso; omega)))))
    all_goals (first | (exfalso; omega) | exact ret2 [] (.fr 1 _ _ _ rfl) (.fr 3 _ _ _ rfl) rfl rfl rfl rfl)
  · rw [tw_one h0 hx]
    have cA := trim_o [x / y] (by simp)
    have cB := trim_o [x % y] (by simp)
    rw [trim_one _ hq] at cA
    rw [trim_one _ hr] at cB
    generalize x / y = q at *
    generalize x % y = r at *
    have l0 : (wns [x]).length = 1 := rfl
    have hrep : List.replicate (wns [x]).length (List.map RV.v [Value.int IntKind.u64 0]) = wns [0] := rfl
    have hE : (wns [0]).set 0 [.v (.int .u64 (q : Int))] = wns [q] := rfl
    have l1 : (wns [y]).length = 1 := rfl
    refine fn_of Tryz.func85 rfl (Nat.le_of_ble_eq_true rfl) rfl rfl ?_
    (repeat' (first | refine r_4eabd4 ?_ | (refine r_48b933 (fun hb => ?_) (fun hb => ?_) <;> (try (exfalso; omega))) | (refine awp_cond rfl (fun hb => ?_) (fun hb => ?_) <;> (try simp only [Bool.not_eq_true', Bool.not_eq_false', decide_eq_true_eq, decide_eq_false_iff_not] at hb) <;> (try (exfalso; omega)))))
    all_goals (first | (exfalso; omega) | skip)
    refine awp_loop' (fun b : Bool => match b with | false => rd1S [x] [y] [0] 0 0 | true => rd1S [x] [y] [q] r (-1)) (fun _ => True) (fun b => match b with | false => 1 | true => 0) false trivial (by (refine Le.mk [(0,0)] [] q_5ec36 q_43730 q_16bb5 q_509a2)) fun b _ => ?_
    cases b with
    | false =>
      change awp _ _ _ _ _ (rd1S [x] [y] [0] 0 0)
      (repeat' (first | refine r_4eabd4 ?_ | (refine is_f 118 ?_; refine r_bb2b31 (cD) ?_) | (refine r_48b933 (fun hb => ?_) (fun hb => ?_) <;> (try (exfalso; omega))) | (refine awp_cond rfl (fun hb => ?_) (fun hb => ?_) <;> (try simp only [Bool.not_eq_true', Bool.not_eq_false', decide_eq_true_eq, decide_eq_false_iff_not] at hb) <;> (try (exfalso; omega)))))
      all_goals (first | (exfalso; omega) | exact ⟨true, trivial, by show Le _ _ (rd1S [x] [y] [q] r (-1)); (refine Le.mk [(0,0)] [] q_5ec36 q_43730 q_16bb5 q_509a2), by decide⟩)
    | true =>
      change awp _ _ _ _ _ (rd1S [x] [y] [q] r (-1))
      (repeat' (first | refine r_4eabd4 ?_ | (refine is_f 115 ?_; refine r_181b4d (cA) ?_) | (refine is_f 115 ?_; refine r_e0b6b3 (cB) ?_) | (refine r_48b933 (fun hb => ?_) (fun hb => ?_) <;> (try (exfalso; omega))) | (refine awp_cond rfl (fun hb => ?_) (fun hb => ?_) <;> (try simp only [Bool.not_eq_true', Bool.not_eq_false', decide_eq_true_eq, decide_eq_false_iff_not] at hb) <;> (try (exfalso; omega)))))
      all_goals (first | (exfalso; omega) | exact ret2 [] (.fr 1 _ _ _ rfl) (.fr 3 _ _ _ rfl) rfl rfl rfl rfl)
end Go.Proofs.YtibedaeefnjjlaaGreat

/- The reference's whole numbers with a sign: Valid, clean, Of, Sign, Neg, Unsigned, OfUnsigned. Conditions: ranges. --ext6 -/
namespace Go.Proofs.YtibedaeefnjjlaaGreat
open Go.RowKit Go.Ab Go.Wd
set_option maxRecDepth 100000
set_option linter.unusedVariables false
set_option linter.unusedSimpArgs false

theorem tw_len0 {n : Nat} : (wns (tw n)).length = 0 ↔ n = 0 := by
  rw [wns_len]
  constructor
  · intro h
    rcases Nat.eq_zero_or_pos n with h' | h'
    · exact h'
    · rw [tw_pos (by omega)] at h; simp at h
  · intro h; subst h; rw [tw_zero]; rfl
theorem validR_m (b : Bool) (n : Nat) (hn : n < B64 ^ 4) : Meets Tryz.prog 45 [wd b n] [] (.r (.v (.bool (vW b n)))) [] := by
  have cO := of_m b n hn
  have h0 := tw_len0 (n := n)
  have hT : n = 0 → b = true → false = vW b n := fun h g => by subst h g; rfl
  have hF : n ≠ 0 → true = vW b n := fun h => by unfold vW; rw [decide_eq_true h]; simp
  cases b with
  | false =>
    refine fn_of Tryz.func45 rfl (Nat.le_of_ble_eq_true rfl) rfl rfl ?_
    (repeat' (first | refine r_4eabd4 ?_ | (refine is_f 81 ?_; refine r_bb2b31 (cO) ?_) | (refine r_48b933 (fun hb => ?_) (fun hb => ?_) <;> (try (exfalso; omega))) | (refine awp_cond rfl (fun hb => ?_) (fun hb => ?_) <;> (try simp only [Bool.not_eq_true', Bool.not_eq_false', decide_eq_true_eq, decide_eq_false_iff_not] at hb) <;> (try (exfalso; omega)))))
    all_goals exact ret1 [] (.bool rfl) rfl rfl rfl
  | true =>
    by_cases h : n = 0
    · have hl := h0.2 h
      refine fn_of Tryz.func45 rfl (Nat.le_of_ble_eq_true rfl) rfl rfl ?_
      (repeat' (first | refine r_4eabd4 ?_ | (refine is_f 81 ?_; refine r_bb2b31 (cO) ?_) | (refine r_48b933 (fun hb => ?_) (fun hb => ?_) <;> (try (exfalso; omega))) | (refine awp_cond rfl (fun hb => ?_) (fun hb => ?_) <;> (try simp only [Bool.not_eq_true', Bool.not_eq_false', decide_eq_true_eq, decide_eq_false_iff_not] at hb) <;> (try (exfalso; omega)))))
      all_goals (first | (exfalso; omega) | exact ret1 [] (.bool (hT h rfl)) rfl rfl rfl)
    · have hl : ¬ (wns (tw n)).length = 0 := fun g => h (h0.1 g)
      refine fn_of Tryz.func45 rfl (Nat.le_of_ble_eq_true rfl) rfl rfl ?_
      (repeat' (first | refine r_4eabd4 ?_ | (refine is_f 81 ?_; refine r_bb2b31 (cO) ?_) | (refine r_48b933 (fun hb => ?_) (fun hb => ?_) <;> (try (exfalso; omega))) | (refine awp_cond rfl (fun hb => ?_) (fun hb => ?_) <;> (try simp only [Bool.not_eq_true', Bool.not_eq_false', decide_eq_true_eq, decide_eq_false_iff_not] at hb) <;> (try (exfalso; omega)))))
      all_goals (first | (exfalso; omega) | exact ret1 [] (.bool (hF h)) rfl rfl rfl)
theorem cleanR_m (b : Bool) (n : Nat) (hn : n < B64 ^ 4) : Meets Tryz.prog 78 [wd b n] [] (wz (zb b n)) [] := by
  have cV := validR_m b n hn
  rw [wz_zb]
  unfold vW at cV
  by_cases h : b = true ∧ n = 0
  · obtain ⟨rfl, rfl⟩ := h
    refine fn_of Tryz.func78 rfl (Nat.le_of_ble_eq_true rfl) rfl rfl ?_
    (repeat' (first | refine r_4eabd4 ?_ | (refine is_f 45 ?_; refine r_bb2b31 (cV) ?_) | (refine r_48b933 (fun hb => ?_) (fun hb => ?_) <;> (try (exfalso; omega))) | (refine awp_cond rfl (fun hb => ?_) (fun hb => ?_) <;> (try simp only [Bool.not_eq_true', Bool.not_eq_false', decide_eq_true_eq, decide_eq_false_iff_not] at hb) <;> (try (exfalso; omega)))))
    all_goals (first | (exfalso; omega) | exact ret1c [] (Rt.wd false 0) rfl rfl rfl rfl (post_none rfl) rfl)
  · have e1 : (!b || decide (n ≠ 0)) = true := by
      cases b with
      | false => rfl
      | true => simp only [Bool.not_true, Bool.false_or, decide_eq_true_eq]; exact fun h' => h ⟨rfl, h'⟩
    have e2 : (b && decide (n ≠ 0)) = b := by
      cases b with
      | false => rfl
      | true => simp only [Bool.true_and, decide_eq_true_eq]; exact fun h' => h ⟨rfl, h'⟩
    rw [e1] at cV
    rw [e2]
    refine fn_of Tryz.func78 rfl (Nat.le_of_ble_eq_true rfl) rfl rfl ?_
    (repeat' (first | refine r_4eabd4 ?_ | (refine is_f 45 ?_; refine r_bb2b31 (cV) ?_) | (refine r_48b933 (fun hb => ?_) (fun hb => ?_) <;> (try (exfalso; omega))) | (refine awp_cond rfl (fun hb => ?_) (fun hb => ?_) <;> (try simp only [Bool.not_eq_true', Bool.not_eq_false', decide_eq_true_eq, decide_eq_false_iff_not] at hb) <;> (try (exfalso; omega)))))
    all_goals (first | (exfalso; omega) | exact ret1c [] (Rt.wd b n) rfl rfl rfl rfl (post_none rfl) rfl)
theorem zb_wz (z : Int) : zb (decide (z < 0)) z.natAbs = z := by
  unfold zb
  by_cases h : z < 0
  · rw [decide_eq_true h, if_pos rfl]; omega
  · rw [decide_eq_false h, if_neg (by simp)]; omega
theorem cleanRZ_m (z : Int) (hz : z.natAbs < B64 ^ 4) : Meets Tryz.prog 78 [wz z] [] (wz z) [] := by
  have h := cleanR_m (decide (z < 0)) z.natAbs hz
  rw [zb_wz] at h
  exact h
theorem validRZ_m (z : Int) (hz : z.natAbs < B64 ^ 4) : Meets Tryz.prog 45 [wz z] [] (.r (.v (.bool true))) [] := by
  have h := validR_m (decide (z < 0)) z.natAbs hz
  have e : vW (decide (z < 0)) z.natAbs = true := by
    unfold vW
    by_cases h : z < 0
    · rw [decide_eq_true h, decide_eq_true (by omega : z.natAbs ≠ 0)]; rfl
    · rw [decide_eq_false h]; rfl
  rw [e] at h
  exact h
theorem wideZ_m (b : Bool) (n : Nat) (hn : n < B64 ^ 4) : Meets Tryz.prog 79 [.r (.v (.bool b)), .r (.sl 1 (wns (tw n)))] [] (.tu [wz (zb b n), .r (.v (.bool true))]) [] := by
  rw [wz_zb]; exact wide_m b n hn
theorem rOf_m (v : Int) (hv : I64 v) : Meets Tryz.prog 21 [.r (.v (.int .i64 v))] [] (wz v) [] := by
  have hv2 : -9223372036854775808 ≤ v ∧ v < 9223372036854775808 := hv
  rcases int_sign v with ⟨n, rfl⟩ | ⟨n, hn, rfl⟩
  · rw [wz_nat]
    have h0 : IntKind.u64.wrap (n : Int) = ((n % B64 : Nat) : Int) := by rw [IntKind.wrap_u64]; unfold B64; omega
    have h1 : n / B64 = 0 := by unfold B64; omega
    have h2 : wd false n = .ag [.r (.v (.bool false)), .r (.v (.int .u64 ((n % B64 : Nat) : Int))), .r (.v (.int .u64 0)), .r (.v (.int .u64 0)), .r (.v (.int .u64 0))] := by
      unfold wd; rw [h1]; rfl
    refine fn_of Tryz.func21 rfl (Nat.le_of_ble_eq_true rfl) rfl rfl ?_
    (repeat' (first | refine r_4eabd4 ?_ | (refine r_48b933 (fun hb => ?_) (fun hb => ?_) <;> (try (exfalso; omega))) | (refine awp_cond rfl (fun hb => ?_) (fun hb => ?_) <;> (try simp only [Bool.not_eq_true', Bool.not_eq_false', decide_eq_true_eq, decide_eq_false_iff_not] at hb) <;> (try (exfalso; omega)))))
    all_goals (first | (exfalso; omega) | (rw [h2]; exact ret1c [] (.ag _ _ _ (Rt.agR [.v (.bool false), .v (.int .u64 ((n % B64 : Nat) : Int)), .v (.int .u64 0), .v (.int .u64 0), .v (.int .u64 0)])) rfl rfl rfl rfl (post_none rfl) rfl))
  · rw [wz_neg n hn]
    have h0 : IntKind.u64.wrap (-(n : Int)) = 18446744073709551616 - (n : Int) := by rw [IntKind.wrap_u64]; omega
    have hneg : IntKind.u64.wrap (0 - (18446744073709551616 - (n : Int))) = ((n % B64 : Nat) : Int) := by rw [IntKind.wrap_u64]; unfold B64; omega
    have h1 : n / B64 = 0 := by unfold B64; omega
    have h2 : wd true n = .ag [.r (.v (.bool true)), .r (.v (.int .u64 ((n % B64 : Nat) : Int))), .r (.v (.int .u64 0)), .r (.v (.int .u64 0)), .r (.v (.int .u64 0))] := by
      unfold wd; rw [h1]; rfl
    refine fn_of Tryz.func21 rfl (Nat.le_of_ble_eq_true rfl) rfl rfl ?_
    (repeat' (first | refine r_4eabd4 ?_ | (refine r_48b933 (fun hb => ?_) (fun hb => ?_) <;> (try (exfalso; omega))) | (refine awp_cond rfl (fun hb => ?_) (fun hb => ?_) <;> (try simp only [Bool.not_eq_true', Bool.not_eq_false', decide_eq_true_eq, decide_eq_false_iff_not] at hb) <;> (try (exfalso; omega)))))
    all_goals (first | (exfalso; omega) | (rw [h2]; exact ret1c [] (.ag _ _ _ (Rt.agR [.v (.bool true), .v (.int .u64 ((n % B64 : Nat) : Int)), .v (.int .u64 0), .v (.int .u64 0), .v (.int .u64 0)])) rfl rfl rfl rfl (post_none rfl) rfl))
theorem rOfU_m (n : Nat) (hn : n < B64) : Meets Tryz.prog 84 [.r (.v (.int .u64 (n : Int)))] [] (wz (n : Int)) [] := by
  rw [wz_nat]
  have h1 : n / B64 = 0 := by unfold B64 at *; omega
  have h0 : n % B64 = n := Nat.mod_eq_of_lt hn
  have h2 : wd false n = .ag [.r (.v (.bool false)), .r (.v (.int .u64 (n : Int))), .r (.v (.int .u64 0)), .r (.v (.int .u64 0)), .r (.v (.int .u64 0))] := by
    unfold wd; rw [h1, h0]; rfl
  rw [h2]
  refine fn_of Tryz.func84 rfl (Nat.le_of_ble_eq_true rfl) rfl rfl ?_
  (repeat' (first | refine r_4eabd4 ?_ | (refine r_48b933 (fun hb => ?_) (fun hb => ?_) <;> (try (exfalso; omega))) | (refine awp_cond rfl (fun hb => ?_) (fun hb => ?_) <;> (try simp only [Bool.not_eq_true', Bool.not_eq_false', decide_eq_true_eq, decide_eq_false_iff_not] at hb) <;> (try (exfalso; omega)))))
  all_goals exact ret1c [] (.ag _ _ _ (Rt.agR [.v (.bool false), .v (.int .u64 (n : Int)), .v (.int .u64 0), .v (.int .u64 0), .v (.int .u64 0)])) rfl rfl rfl rfl (post_none rfl) rfl
theorem rSign_m (z : Int) (hz : z.natAbs < B64 ^ 4) : Meets Tryz.prog 46 [wz z] [] (.r (.v (.int .i64 (sgZ z)))) [] := by
  rcases int_sign z with ⟨n, rfl⟩ | ⟨n, hn, rfl⟩
  · have cO := of_m false n (by simpa using hz)
    have h0 := tw_len0 (n := n)
    rw [wz_nat]
    have hT : (wns (tw n)).length = 0 → (0 : Int) = sgZ (n : Int) := fun h => by rw [h0.1 h]; rfl
    have hF : ¬ (wns (tw n)).length = 0 → (1 : Int) = sgZ (n : Int) := fun h => by have := fun g => h (h0.2 g); unfold sgZ; rw [if_neg (by omega), if_neg (by omega)]
    refine fn_of Tryz.func46 rfl (Nat.le_of_ble_eq_true rfl) rfl rfl ?_
    (repeat' (first | refine r_4eabd4 ?_ | (refine is_f 81 ?_; refine r_bb2b31 (cO) ?_) | (refine r_48b933 (fun hb => ?_) (fun hb => ?_) <;> (try (exfalso; omega))) | (refine awp_cond rfl (fun hb => ?_) (fun hb => ?_) <;> (try simp only [Bool.not_eq_true', Bool.not_eq_false', decide_eq_true_eq, decide_eq_false_iff_not] at hb) <;> (try (exfalso; omega)))))
    all_goals (first | exact ret1 [] (.int (hT (by omega))) rfl rfl rfl | exact ret1 [] (.int (hF (by omega))) rfl rfl rfl)
  · have cO := of_m true n (by simpa using hz)
    have h0 := tw_len0 (n := n)
    have hl : ¬ (wns (tw n)).length = 0 := fun g => hn (h0.1 g)
    rw [wz_neg n hn]
    have hT : (-1 : Int) = sgZ (-(n : Int)) := by unfold sgZ; rw [if_pos (by omega)]
    refine fn_of Tryz.func46 rfl (Nat.le_of_ble_eq_true rfl) rfl rfl ?_
    (repeat' (first | refine r_4eabd4 ?_ | (refine is_f 81 ?_; refine r_bb2b31 (cO) ?_) | (refine r_48b933 (fun hb => ?_) (fun hb => ?_) <;> (try (exfalso; omega))) | (refine awp_cond rfl (fun hb => ?_) (fun hb => ?_) <;> (try simp only [Bool.not_eq_true', Bool.not_eq_false', decide_eq_true_eq, decide_eq_false_iff_not] at hb) <;> (try (exfalso; omega)))))
    all_goals (first | (exfalso; omega) | exact ret1 [] (.int hT) rfl rfl rfl)
theorem rNeg_m (z : Int) (hz : z.natAbs < B64 ^ 4) : Meets Tryz.prog 50 [wz z] [] (wz (-z)) [] := by
  rcases int_sign z with ⟨n, rfl⟩ | ⟨n, hn, rfl⟩
  · have cO := of_m false n (by simpa using hz)
    have cS := wideZ_m true n (by simpa using hz)
    rw [show zb true n = -(n : Int) from rfl] at cS
    rw [wz_nat]
    refine fn_of Tryz.func50 rfl (Nat.le_of_ble_eq_true rfl) rfl rfl ?_
    (repeat' (first | refine r_4eabd4 ?_ | (refine is_f 81 ?_; refine r_bb2b31 (cO) ?_) | (refine is_f 79 ?_; refine r_bb2b31 (cS) ?_) | (refine r_48b933 (fun hb => ?_) (fun hb => ?_) <;> (try (exfalso; omega))) | (refine awp_cond rfl (fun hb => ?_) (fun hb => ?_) <;> (try simp only [Bool.not_eq_true', Bool.not_eq_false', decide_eq_true_eq, decide_eq_false_iff_not] at hb) <;> (try (exfalso; omega)))))
    all_goals exact ret1c [] (Rt.wz _) rfl rfl rfl rfl (post_none rfl) rfl
  · have cO := of_m true n (by simpa using hz)
    have cS := wideZ_m false n (by simpa using hz)
    rw [show zb false n = (n : Int) from rfl] at cS
    rw [wz_neg n hn, Int.neg_neg]
    refine fn_of Tryz.func50 rfl (Nat.le_of_ble_eq_true rfl) rfl rfl ?_
    (repeat' (first | refine r_4eabd4 ?_ | (refine is_f 81 ?_; refine r_bb2b31 (cO) ?_) | (refine is_f 79 ?_; refine r_bb2b31 (cS) ?_) | (refine r_48b933 (fun hb => ?_) (fun hb => ?_) <;> (try (exfalso; omega))) | (refine awp_cond rfl (fun hb => ?_) (fun hb => ?_) <;> (try simp only [Bool.not_eq_true', Bool.not_eq_false', decide_eq_true_eq, decide_eq_false_iff_not] at hb) <;> (try (exfalso; omega)))))
    all_goals exact ret1c [] (Rt.wz _) rfl rfl rfl rfl (post_none rfl) rfl
end Go.Proofs.YtibedaeefnjjlaaGreat

/- The reference's whole numbers with a sign: Compare, Mul, Add, Sub, Unsigned. Conditions: ranges. --ext6 -/
namespace Go.Proofs.YtibedaeefnjjlaaGreat
open Go.RowKit Go.Ab Go.Wd
set_option maxRecDepth 100000
set_option linter.unusedVariables false
set_option linter.unusedSimpArgs false

theorem cmpN_range (m n : Nat) : cmpN m n = -1 ∨ cmpN m n = 0 ∨ cmpN m n = 1 := by
  unfold cmpN; split
  · exact .inl rfl
  · split
    · exact .inr (.inr rfl)
    · exact .inr (.inl rfl)
theorem sgZ_nat (n : Nat) : sgZ (n : Int) = if n = 0 then 0 else 1 := by
  unfold sgZ; rw [if_neg (by omega)]
  by_cases h : n = 0
  · rw [if_pos h, if_pos (by omega)]
  · rw [if_neg h, if_neg (by omega)]
theorem sgZ_neg (n : Nat) (h : n ≠ 0) : sgZ (-(n : Int)) = -1 := by unfold sgZ; rw [if_pos (by omega)]
set_option maxHeartbeats 4000000 in
theorem rCompare_m (x y : Int) (hx : x.natAbs < B64 ^ 4) (hy : y.natAbs < B64 ^ 4) : Meets Tryz.prog 44 [wz x, wz y] [] (.r (.v (.int .i64 (cmpZ x y)))) [] := by
  have s1 := rSign_m x hx
  have s2 := rSign_m y hy
  rcases int_sign x with ⟨m, rfl⟩ | ⟨m, hm, rfl⟩ <;> rcases int_sign y with ⟨n, rfl⟩ | ⟨n, hn, rfl⟩
  · have hM : m < B64 ^ 4 := by simpa using hx
    have hN : n < B64 ^ 4 := by simpa using hy
    have l1 := tw_len 4 m hM
    have l2 := tw_len 4 n hN
    have cC := compare_m m n (by omega) (by omega)
    have o1 := of_m false m hM
    have o2 := of_m false n hN
    rw [cmpZ_nn]
    rw [wz_nat] at s1 s2
    rw [wz_nat, wz_nat]
    rw [sgZ_nat] at s1 s2
    have hr := cmpN_range m n
    have k1 : m = 0 → n = 0 → cmpN m n = 0 := fun h g => by subst h g; rfl
    have k2 : m = 0 → n ≠ 0 → cmpN m n = -1 := fun h g => by unfold cmpN; rw [if_pos (by omega)]
    have k3 : m ≠ 0 → n = 0 → cmpN m n = 1 := fun h g => by unfold cmpN; rw [if_neg (by omega), if_pos (by omega)]
    generalize cmpN m n = e at *
    have hr1 : IntKind.i64.wrap (1 * e) = e := by rw [IntKind.wrap_i64]; omega
    by_cases h1 : m = 0 <;> by_cases h2 : n = 0
    · rw [if_pos h1] at s1
      rw [if_pos h2] at s2
      have hr0 : IntKind.i64.wrap (0 * e) = e := by rw [k1 h1 h2]; rfl
      refine fn_of Tryz.func44 rfl (Nat.le_of_ble_eq_true rfl) rfl rfl ?_
      (repeat' (first | refine r_4eabd4 ?_ | (refine is_f 46 ?_; refine r_bb2b31 (s1) ?_) | (refine is_f 46 ?_; refine r_bb2b31 (s2) ?_) | (refine is_f 81 ?_; refine r_bb2b31 (o1) ?_) | (refine is_f 81 ?_; refine r_bb2b31 (o2) ?_) | (refine is_f 82 ?_; refine r_bb2b31 (cC) ?_) | (refine r_48b933 (fun hb => ?_) (fun hb => ?_) <;> (try (exfalso; omega))) | (refine awp_cond rfl (fun hb => ?_) (fun hb => ?_) <;> (try simp only [Bool.not_eq_true', Bool.not_eq_false', decide_eq_true_eq, decide_eq_false_iff_not] at hb) <;> (try (exfalso; omega)))))
      all_goals (first | (exfalso; omega) | exact ret1 [] (.int rfl) rfl rfl rfl)
    · rw [if_pos h1] at s1
      rw [if_neg h2] at s2
      have k := k2 h1 h2
      refine fn_of Tryz.func44 rfl (Nat.le_of_ble_eq_true rfl) rfl rfl ?_
      (repeat' (first | refine r_4eabd4 ?_ | (refine is_f 46 ?_; refine r_bb2b31 (s1) ?_) | (refine is_f 46 ?_; refine r_bb2b31 (s2) ?_) | (refine is_f 81 ?_; refine r_bb2b31 (o1) ?_) | (refine is_f 81 ?_; refine r_bb2b31 (o2) ?_) | (refine is_f 82 ?_; refine r_bb2b31 (cC) ?_) | (refine r_48b933 (fun hb => ?_) (fun hb => ?_) <;> (try (exfalso; omega))) | (refine awp_cond rfl (fun hb => ?_) (fun hb => ?_) <;> (try simp only [Bool.not_eq_true', Bool.not_eq_false', decide_eq_true_eq, decide_eq_false_iff_not] at hb) <;> (try (exfalso; omega)))))
      all_goals (first | (exfalso; omega) | exact ret1 [] (.int k.symm) rfl rfl rfl)
    · rw [if_neg h1] at s1
      rw [if_pos h2] at s2
      have k := k3 h1 h2
      refine fn_of Tryz.func44 rfl (Nat.le_of_ble_eq_true rfl) rfl rfl ?_
      (repeat' (first | refine r_4eabd4 ?_ | (refine is_f 46 ?_; refine r_bb2b31 (s1) ?_) | (refine is_f 46 ?_; refine r_bb2b31 (s2) ?_) | (refine is_f 81 ?_; refine r_bb2b31 (o1) ?_) | (refine is_f 81 ?_; refine r_bb2b31 (o2) ?_) | (refine is_f 82 ?_; refine r_bb2b31 (cC) ?_) | (refine r_48b933 (fun hb => ?_) (fun hb => ?_) <;> (try (exfalso; omega))) | (refine awp_cond rfl (fun hb => ?_) (fun hb => ?_) <;> (try simp only [Bool.not_eq_true', Bool.not_eq_false', decide_eq_true_eq, decide_eq_false_iff_not] at hb) <;> (try (exfalso; omega)))))
      all_goals (first | (exfalso; omega) | exact ret1 [] (.int k.symm) rfl rfl rfl)
    · rw [if_neg h1] at s1
      rw [if_neg h2] at s2
      refine fn_of Tryz.func44 rfl (Nat.le_of_ble_eq_true rfl) rfl rfl ?_
      (repeat' (first | refine r_4eabd4 ?_ | (refine is_f 46 ?_; refine r_bb2b31 (s1) ?_) | (refine is_f 46 ?_; refine r_bb2b31 (s2) ?_) | (refine is_f 81 ?_; refine r_bb2b31 (o1) ?_) | (refine is_f 81 ?_; refine r_bb2b31 (o2) ?_) | (refine is_f 82 ?_; refine r_bb2b31 (cC) ?_) | (refine r_48b933 (fun hb => ?_) (fun hb => ?_) <;> (try (exfalso; omega))) | (refine awp_cond rfl (fun hb => ?_) (fun hb => ?_) <;> (try simp only [Bool.not_eq_true', Bool.not_eq_false', decide_eq_true_eq, decide_eq_false_iff_not] at hb) <;> (try (exfalso; omega)))))
      all_goals (first | (exfalso; omega) | exact ret1 [] (.int rfl) rfl rfl rfl)
  · have e : (1 : Int) = cmpZ (m : Int) (-(n : Int)) := by unfold cmpZ; rw [if_neg (by omega), if_pos (by omega)]
    rw [sgZ_neg n hn] at s2
    have hs : 0 ≤ sgZ (m : Int) := by rw [sgZ_nat]; split <;> omega
    rw [wz_nat] at s1
    rw [wz_neg n hn] at s2
    rw [wz_nat, wz_neg n hn]
    generalize sgZ (m : Int) = sg at *
    refine fn_of Tryz.func44 rfl (Nat.le_of_ble_eq_true rfl) rfl rfl ?_
    (repeat' (first | refine r_4eabd4 ?_ | (refine is_f 46 ?_; refine r_bb2b31 (s1) ?_) | (refine is_f 46 ?_; refine r_bb2b31 (s2) ?_) | (refine r_48b933 (fun hb => ?_) (fun hb => ?_) <;> (try (exfalso; omega))) | (refine awp_cond rfl (fun hb => ?_) (fun hb => ?_) <;> (try simp only [Bool.not_eq_true', Bool.not_eq_false', decide_eq_true_eq, decide_eq_false_iff_not] at hb) <;> (try (exfalso; omega)))))
    all_goals (first | (exfalso; omega) | exact ret1 [] (.int e) rfl rfl rfl)
  · have e : (-1 : Int) = cmpZ (-(m : Int)) (n : Int) := by unfold cmpZ; rw [if_pos (by omega)]
    rw [sgZ_neg m hm] at s1
    have hs : 0 ≤ sgZ (n : Int) := by rw [sgZ_nat]; split <;> omega
    rw [wz_neg m hm] at s1
    rw [wz_nat] at s2
    rw [wz_nat, wz_neg m hm]
    generalize sgZ (n : Int) = sg at *
    refine fn_of Tryz.func44 rfl (Nat.le_of_ble_eq_true rfl) rfl rfl ?_
    (repeat' (first | refine r_4eabd4 ?_ | (refine is_f 46 ?_; refine r_bb2b31 (s1) ?_) | (refine is_f 46 ?_; refine r_bb2b31 (s2) ?_) | (refine r_48b933 (fun hb => ?_) (fun hb => ?_) <;> (try (exfalso; omega))) | (refine awp_cond rfl (fun hb => ?_) (fun hb => ?_) <;> (try simp only [Bool.not_eq_true', Bool.not_eq_false', decide_eq_true_eq, decide_eq_false_iff_not] at hb) <;> (try (exfalso; omega)))))
    all_goals (first | (exfalso; omega) | exact ret1 [] (.int e) rfl rfl rfl)
  · have hM : m < B64 ^ 4 := by simpa using hx
    have hN : n < B64 ^ 4 := by simpa using hy
    have l1 := tw_len 4 m hM
    have l2 := tw_len 4 n hN
    have cC := compare_m m n (by omega) (by omega)
    have o1 := of_m true m hM
    have o2 := of_m true n hN
    have hr := cmpN_range m n
    have hr1 : IntKind.i64.wrap (-1 * cmpN m n) = cmpN n m := by
      unfold cmpN
      rcases Nat.lt_trichotomy m n with h | h | h
      · rw [if_pos h, if_neg (by omega), if_pos h]; rfl
      · subst h; rw [if_neg (Nat.lt_irrefl m), if_neg (Nat.lt_irrefl m)]; rfl
      · rw [if_neg (by omega), if_pos h, if_pos h]; rfl
    rw [cmpZ_neg]
    rw [sgZ_neg m hm, wz_neg m hm] at s1
    rw [sgZ_neg n hn, wz_neg n hn] at s2
    rw [wz_neg m hm, wz_neg n hn]
    generalize cmpN m n = e at *
    generalize cmpN n m = e2 at *
    refine fn_of Tryz.func44 rfl (Nat.le_of_ble_eq_true rfl) rfl rfl ?_
    (repeat' (first | refine r_4eabd4 ?_ | (refine is_f 46 ?_; refine r_bb2b31 (s1) ?_) | (refine is_f 46 ?_; refine r_bb2b31 (s2) ?_) | (refine is_f 81 ?_; refine r_bb2b31 (o1) ?_) | (refine is_f 81 ?_; refine r_bb2b31 (o2) ?_) | (refine is_f 82 ?_; refine r_bb2b31 (cC) ?_) | (refine r_48b933 (fun hb => ?_) (fun hb => ?_) <;> (try (exfalso; omega))) | (refine awp_cond rfl (fun hb => ?_) (fun hb => ?_) <;> (try simp only [Bool.not_eq_true', Bool.not_eq_false', decide_eq_true_eq, decide_eq_false_iff_not] at hb) <;> (try (exfalso; omega)))))
    all_goals (first | (exfalso; omega) | exact ret1 [] (.int rfl) rfl rfl rfl)
set_option maxHeartbeats 4000000 in
theorem rMul_m (x y : Int) (hx : x.natAbs < B64 ^ 4) (hy : y.natAbs < B64 ^ 4) (hxy : (x * y).natAbs < B64 ^ 4) : Meets Tryz.prog 43 [wz x, wz y] [] (.tu [wz (x * y), .r (.v (.bool true))]) [] := by
  have c1 := cleanRZ_m x hx
  have c2 := cleanRZ_m y hy
  rw [Int.natAbs_mul] at hxy
  rcases int_sign x with ⟨m, rfl⟩ | ⟨m, hm, rfl⟩ <;> rcases int_sign y with ⟨n, rfl⟩ | ⟨n, hn, rfl⟩
  · have hM : m < B64 ^ 4 := by simpa using hx
    have hN : n < B64 ^ 4 := by simpa using hy
    have hS : m * n < B64 ^ 4 := by simpa using hxy
    have l1 := tw_len 4 m hM
    have l2 := tw_len 4 n hN
    have cA := refMulL_m (tw m) (tw n) (tw_wds m) (tw_wds n) (by omega) (by omega)
    rw [val_tw, val_tw] at cA
    have o1 := of_m false m hM
    have o2 := of_m false n hN
    have cS := wideZ_m false (m * n) hS
    rw [zb_f] at cS
    rw [show (m : Int) * (n : Int) = ((m * n : Nat) : Int) by rw [Int.natCast_mul]]
    rw [wz_nat m] at c1
    rw [wz_nat n] at c2
    rw [wz_nat m, wz_nat n]
    generalize m * n = s at *
    refine fn_of Tryz.func43 rfl (Nat.le_of_ble_eq_true rfl) rfl rfl ?_
    (repeat' (first | refine r_4eabd4 ?_ | (refine is_f 78 ?_; refine r_bb2b31 (c1) ?_) | (refine is_f 78 ?_; refine r_bb2b31 (c2) ?_) | (refine is_f 81 ?_; refine r_bb2b31 (o1) ?_) | (refine is_f 81 ?_; refine r_bb2b31 (o2) ?_) | (refine is_f 80 ?_; refine r_bb2b31 (cA) ?_) | (refine is_f 79 ?_; refine r_bb2b31 (cS) ?_) | (refine r_48b933 (fun hb => ?_) (fun hb => ?_) <;> (try (exfalso; omega))) | (refine awp_cond rfl (fun hb => ?_) (fun hb => ?_) <;> (try simp only [Bool.not_eq_true', Bool.not_eq_false', decide_eq_true_eq, decide_eq_false_iff_not] at hb) <;> (try (exfalso; omega)))))
    all_goals (first | exact absurd rfl hb | exact ret2c [] (Rt.wz _) (.bool rfl) rfl rfl rfl rfl rfl (post_none rfl) rfl)
  · have hM : m < B64 ^ 4 := by simpa using hx
    have hN : n < B64 ^ 4 := by simpa using hy
    have hS : m * n < B64 ^ 4 := by simpa using hxy
    have l1 := tw_len 4 m hM
    have l2 := tw_len 4 n hN
    have cA := refMulL_m (tw m) (tw n) (tw_wds m) (tw_wds n) (by omega) (by omega)
    rw [val_tw, val_tw] at cA
    have o1 := of_m false m hM
    have o2 := of_m true n hN
    have cS := wideZ_m true (m * n) hS
    rw [zb_t] at cS
    rw [show (m : Int) * -(n : Int) = -((m * n : Nat) : Int) by rw [Int.mul_neg, Int.natCast_mul]]
    rw [wz_nat m] at c1
    rw [wz_neg n hn] at c2
    rw [wz_nat m, wz_neg n hn]
    generalize m * n = s at *
    refine fn_of Tryz.func43 rfl (Nat.le_of_ble_eq_true rfl) rfl rfl ?_
    (repeat' (first | refine r_4eabd4 ?_ | (refine is_f 78 ?_; refine r_bb2b31 (c1) ?_) | (refine is_f 78 ?_; refine r_bb2b31 (c2) ?_) | (refine is_f 81 ?_; refine r_bb2b31 (o1) ?_) | (refine is_f 81 ?_; refine r_bb2b31 (o2) ?_) | (refine is_f 80 ?_; refine r_bb2b31 (cA) ?_) | (refine is_f 79 ?_; refine r_bb2b31 (cS) ?_) | (refine r_48b933 (fun hb => ?_) (fun hb => ?_) <;> (try (exfalso; omega))) | (refine awp_cond rfl (fun hb => ?_) (fun hb => ?_) <;> (try simp only [Bool.not_eq_true', Bool.not_eq_false', decide_eq_true_eq, decide_eq_false_iff_not] at hb) <;> (try (exfalso; omega)))))
    all_goals (first | exact absurd rfl hb | exact ret2c [] (Rt.wz _) (.bool rfl) rfl rfl rfl rfl rfl (post_none rfl) rfl)
  · have hM : m < B64 ^ 4 := by simpa using hx
    have hN : n < B64 ^ 4 := by simpa using hy
    have hS : m * n < B64 ^ 4 := by simpa using hxy
    have l1 := tw_len 4 m hM
    have l2 := tw_len 4 n hN
    have cA := refMulL_m (tw m) (tw n) (tw_wds m) (tw_wds n) (by omega) (by omega)
    rw [val_tw, val_tw] at cA
    have o1 := of_m true m hM
    have o2 := of_m false n hN
    have cS := wideZ_m true (m * n) hS
    rw [zb_t] at cS
    rw [show -(m : Int) * (n : Int) = -((m * n : Nat) : Int) by rw [Int.neg_mul, Int.natCast_mul]]
    rw [wz_neg m hm] at c1
    rw [wz_nat n] at c2
    rw [wz_neg m hm, wz_nat n]
    generalize m * n = s at *
    refine fn_of Tryz.func43 rfl (Nat.le_of_ble_eq_true rfl) rfl rfl ?_
    (repeat' (first | refine r_4eabd4 ?_ | (refine is_f 78 ?_; refine r_bb2b31 (c1) ?_) | (refine is_f 78 ?_; refine r_bb2b31 (c2) ?_) | (refine is_f 81 ?_; refine r_bb2b31 (o1) ?_) | (refine is_f 81 ?_; refine r_bb2b31 (o2) ?_) | (refine is_f 80 ?_; refine r_bb2b31 (cA) ?_) | (refine is_f 79 ?_; refine r_bb2b31 (cS) ?_) | (refine r_48b933 (fun hb => ?_) (fun hb => ?_) <;> (try (exfalso; omega))) | (refine awp_cond rfl (fun hb => ?_) (fun hb => ?_) <;> (try simp only [Bool.not_eq_true', Bool.not_eq_false', decide_eq_true_eq, decide_eq_false_iff_not] at hb) <;> (try (exfalso; omega)))))
    all_goals (first | exact absurd rfl hb | exact ret2c [] (Rt.wz _) (.bool rfl) rfl rfl rfl rfl rfl (post_none rfl) rfl)
  · have hM : m < B64 ^ 4 := by simpa using hx
    have hN : n < B64 ^ 4 := by simpa using hy
    have hS : m * n < B64 ^ 4 := by simpa using hxy
    have l1 := tw_len 4 m hM
    have l2 := tw_len 4 n hN
    have cA := refMulL_m (tw m) (tw n) (tw_wds m) (tw_wds n) (by omega) (by omega)
    rw [val_tw, val_tw] at cA
    have o1 := of_m true m hM
    have o2 := of_m true n hN
    have cS := wideZ_m false (m * n) hS
    rw [zb_f] at cS
    rw [show -(m : Int) * -(n : Int) = ((m * n : Nat) : Int) by rw [Int.neg_mul_neg, Int.natCast_mul]]
    rw [wz_neg m hm] at c1
    rw [wz_neg n hn] at c2
    rw [wz_neg m hm, wz_neg n hn]
    generalize m * n = s at *
    refine fn_of Tryz.func43 rfl (Nat.le_of_ble_eq_true rfl) rfl rfl ?_
    (repeat' (first | refine r_4eabd4 ?_ | (refine is_f 78 ?_; refine r_bb2b31 (c1) ?_) | (refine is_f 78 ?_; refine r_bb2b31 (c2) ?_) | (refine is_f 81 ?_; refine r_bb2b31 (o1) ?_) | (refine is_f 81 ?_; refine r_bb2b31 (o2) ?_) | (refine is_f 80 ?_; refine r_bb2b31 (cA) ?_) | (refine is_f 79 ?_; refine r_bb2b31 (cS) ?_) | (refine r_48b933 (fun hb => ?_) (fun hb => ?_) <;> (try (exfalso; omega))) | (refine awp_cond rfl (fun hb => ?_) (fun hb => ?_) <;> (try simp only [Bool.not_eq_true', Bool.not_eq_false', decide_eq_true_eq, decide_eq_false_iff_not] at hb) <;> (try (exfalso; omega)))))
    all_goals (first | exact absurd rfl hb | exact ret2c [] (Rt.wz _) (.bool rfl) rfl rfl rfl rfl rfl (post_none rfl) rfl)
end Go.Proofs.YtibedaeefnjjlaaGreat

/- The reference's whole numbers: Unsigned, DivMod of numbers that are not negative. Conditions: ranges. --ext6 -/
namespace Go.Proofs.YtibedaeefnjjlaaGreat
open Go.RowKit Go.Ab Go.Wd
set_option maxRecDepth 100000
set_option linter.unusedVariables false
set_option linter.unusedSimpArgs false

theorem rUnsigned_m (n : Nat) (hn : n < B64) : Meets Tryz.prog 83 [wz (n : Int)] [] (.tu [.r (.v (.int .u64 (n : Int))), .r (.v (.bool true))]) [] := by
  have hB : n < B64 ^ 4 := by rw [B64_q]; unfold B64 at hn; omega
  have c1 := cleanRZ_m (n : Int) (by simpa using hB)
  have o1 := of_m false n hB
  rw [wz_nat] at c1 ⊢
  have l1 : (wns (tw n)).length ≤ 1 := by rw [wns_len]; exact tw_len 1 n (by rw [Nat.pow_one]; exact hn)
  have hm : ((n % B64 : Nat) : Int) = (n : Int) := by rw [Nat.mod_eq_of_lt hn]
  refine fn_of Tryz.func83 rfl (Nat.le_of_ble_eq_true rfl) rfl rfl ?_
  (repeat' (first | refine r_4eabd4 ?_ | (refine is_f 78 ?_; refine r_bb2b31 (c1) ?_) | (refine is_f 81 ?_; refine r_bb2b31 (o1) ?_) | (refine r_48b933 (fun hb => ?_) (fun hb => ?_) <;> (try (exfalso; omega))) | (refine awp_cond rfl (fun hb => ?_) (fun hb => ?_) <;> (try simp only [Bool.not_eq_true', Bool.not_eq_false', decide_eq_true_eq, decide_eq_false_iff_not] at hb) <;> (try (exfalso; omega)))))
  all_goals (first | (exfalso; omega) | exact ret2 [] (.int hm) (.bool rfl) rfl rfl rfl rfl)
set_option maxHeartbeats 4000000 in
theorem rDivModN_m (m n : Nat) (hM : m < B64 ^ 4) (hN : n < B64 ^ 4) (hn0 : n ≠ 0) (cD : Meets Tryz.prog 85 [.r (.sl 1 (wns (tw m))), .r (.sl 1 (wns (tw n)))] [] (.tu [.r (.sl 1 (wns (tw (m / n)))), .r (.sl 1 (wns (tw (m % n))))]) []) :
    Meets Tryz.prog 49 [wz (m : Int), wz (n : Int)] [] (.tu [wz ((m / n : Nat) : Int), wz ((m % n : Nat) : Int), .r (.v (.bool true))]) [] := by
  have c1 := cleanRZ_m (m : Int) (by simpa using hM)
  have c2 := cleanRZ_m (n : Int) (by simpa using hN)
  have cS := rSign_m (n : Int) (by simpa using hN)
  have hsg : ¬ sgZ (n : Int) = 0 := by rw [sgZ_nat, if_neg hn0]; omega
  have o1 := of_m false m hM
  have o2 := of_m false n hN
  have hq : m / n < B64 ^ 4 := Nat.lt_of_le_of_lt (Nat.div_le_self _ _) hM
  have hr : m % n < B64 ^ 4 := Nat.lt_of_le_of_lt (Nat.mod_le _ _) hM
  have w1 := wideZ_m false (m / n) hq
  have w2 := wideZ_m false (m % n) hr
  rw [zb_f] at w1 w2
  rw [wz_nat] at c1 c2 cS
  rw [wz_nat m, wz_nat n]
  generalize sgZ (n : Int) = sg at *
  generalize m / n = q at *
  generalize m % n = r at *
  refine fn_of Tryz.func49 rfl (Nat.le_of_ble_eq_true rfl) rfl rfl ?_
  (repeat' (first | refine r_4eabd4 ?_ | (refine is_f 78 ?_; refine r_bb2b31 (c1) ?_) | (refine is_f 78 ?_; refine r_bb2b31 (c2) ?_) | (refine is_f 46 ?_; refine r_bb2b31 (cS) ?_) | (refine is_f 81 ?_; refine r_bb2b31 (o1) ?_) | (refine is_f 81 ?_; refine r_bb2b31 (o2) ?_) | (refine is_f 85 ?_; refine r_bb2b31 (cD) ?_) | (refine is_f 79 ?_; refine r_bb2b31 (w1) ?_) | (refine is_f 79 ?_; refine r_bb2b31 (w2) ?_) | (refine r_48b933 (fun hb => ?_) (fun hb => ?_) <;> (try (exfalso; omega))) | (refine awp_cond rfl (fun hb => ?_) (fun hb => ?_) <;> (try simp only [Bool.not_eq_true', Bool.not_eq_false', decide_eq_true_eq, decide_eq_false_iff_not] at hb) <;> (try (exfalso; omega)))))
  all_goals (first | (exfalso; omega) | exact absurd rfl hb | exact ret3cc [] (Rt.wz _) (Rt.wz _) (.bool rfl) rfl rfl rfl rfl rfl rfl rfl rfl (post_none rfl) rfl)
end Go.Proofs.YtibedaeefnjjlaaGreat

/- The reference's fractions: small, abs, one, gcd of numbers of one word. Conditions: ranges. --ext6 -/
namespace Go.Proofs.YtibedaeefnjjlaaGreat
open Go.RowKit Go.Ab Go.Wd
set_option maxRecDepth 100000
set_option linter.unusedVariables false
set_option linter.unusedSimpArgs false

set_option maxHeartbeats 4000000 in
theorem rSmallW_m (b : Bool) (n : Nat) (hn : n < B64 ^ 4) : Meets Tryz.prog 77 [wd b n] [] (.r (.v (.bool (decide (n < N127))))) [] := by
  have k1 : ¬ ((n / B64 / B64 / B64 % B64 : Nat) : Int) = 0 → false = decide (n < N127) := fun h => by
    refine (decide_eq_false ?_).symm
    unfold N127; unfold B64 at h; omega
  have k2 : ¬ ((n / B64 / B64 % B64 : Nat) : Int) = 0 → false = decide (n < N127) := fun h => by
    refine (decide_eq_false ?_).symm
    unfold N127; unfold B64 at h; omega
  have k3 : ¬ ((n / B64 % B64 : Nat) : Int) < 9223372036854775808 → false = decide (n < N127) := fun h => by
    refine (decide_eq_false ?_).symm
    unfold N127; unfold B64 at h; omega
  have k4 : ((n / B64 / B64 / B64 % B64 : Nat) : Int) = 0 → ((n / B64 / B64 % B64 : Nat) : Int) = 0 → ((n / B64 % B64 : Nat) : Int) < 9223372036854775808 → true = decide (n < N127) := fun h1 h2 h3 => by
    refine (decide_eq_true ?_).symm
    rw [B64_q] at hn
    unfold N127; unfold B64 at h1 h2 h3; omega
  unfold wd
  clear hn
  generalize decide (n < N127) = r at *
  generalize n / B64 / B64 / B64 % B64 = w3 at *
  generalize n / B64 / B64 % B64 = w2 at *
  generalize n / B64 % B64 = w1 at *
  generalize n % B64 = w0 at *
  refine fn_of Tryz.func77 rfl (Nat.le_of_ble_eq_true rfl) rfl rfl ?_
  (repeat' (first | refine r_4eabd4 ?_ | (refine r_48b933 (fun hb => ?_) (fun hb => ?_) <;> (try (exfalso; omega))) | (refine awp_cond rfl (fun hb => ?_) (fun hb => ?_) <;> (try simp only [Bool.not_eq_true', Bool.not_eq_false', decide_eq_true_eq, decide_eq_false_iff_not] at hb) <;> (try (exfalso; omega)))))
  all_goals (first | (exfalso; omega) | exact ret1 [] (.bool (k4 (by assumption) (by assumption) (by assumption))) rfl rfl rfl | exact ret1 [] (.bool (k1 (by assumption))) rfl rfl rfl | exact ret1 [] (.bool (k2 (by assumption))) rfl rfl rfl | exact ret1 [] (.bool (k3 (by assumption))) rfl rfl rfl)
theorem rAbs_m (z : Int) (hz : W4 z) : Meets Tryz.prog 48 [wz z] [] (wz ((z.natAbs : Nat) : Int)) [] := by
  rw [wz_nat]
  unfold wz
  refine fn_of Tryz.func48 rfl (Nat.le_of_ble_eq_true rfl) rfl rfl ?_
  (repeat' (first | refine r_4eabd4 ?_ | (refine r_48b933 (fun hb => ?_) (fun hb => ?_) <;> (try (exfalso; omega))) | (refine awp_cond rfl (fun hb => ?_) (fun hb => ?_) <;> (try simp only [Bool.not_eq_true', Bool.not_eq_false', decide_eq_true_eq, decide_eq_false_iff_not] at hb) <;> (try (exfalso; omega)))))
  all_goals exact ret1c [] (Rt.wd false z.natAbs) rfl rfl rfl rfl (post_none rfl) rfl
theorem rOne_m : Meets Tryz.prog 60 [] [] (wz 1) [] := by
  have c := rOf_m 1 (by constructor <;> decide)
  refine fn_of Tryz.func60 rfl (Nat.le_of_ble_eq_true rfl) rfl rfl ?_
  (repeat' (first | refine r_4eabd4 ?_ | (refine is_f 21 ?_; refine r_bb2b31 (c) ?_) | (refine r_48b933 (fun hb => ?_) (fun hb => ?_) <;> (try (exfalso; omega))) | (refine awp_cond rfl (fun hb => ?_) (fun hb => ?_) <;> (try simp only [Bool.not_eq_true', Bool.not_eq_false', decide_eq_true_eq, decide_eq_false_iff_not] at hb) <;> (try (exfalso; omega)))))
  all_goals exact ret1c [] (Rt.wz 1) rfl rfl rfl rfl (post_none rfl) rfl
def rgI (m n x y : Nat) : St := ⟨[(2, .pt 0 0), (3, .pt 1 0), (4, .pt 2 0), (5, .r (.v (.int .u64 (x : Int)))), (7, .r (.v (.int .u64 (y : Int))))], [(0, some (.var 36 (cellsA (wd false m)))), (1, some (.var 36 (cellsA (wd false n)))), (2, some (.var 36 (cellsA (wd false 0))))], 3⟩
set_option maxHeartbeats 4000000 in
theorem rGcdS_m (m n : Nat) (hm : m < B64) (hn : n < B64) : Meets Tryz.prog 47 [wz (m : Int), wz (n : Int)] [] (wz ((Nat.gcd m n : Nat) : Int)) [] := by
  have hm4 : m < B64 ^ 4 := by rw [B64_q]; unfold B64 at hm; omega
  have hn4 : n < B64 ^ 4 := by rw [B64_q]; unfold B64 at hn; omega
  have cS := rSign_m (n : Int) (w4_nat hn4)
  have u1 := rUnsigned_m m hm
  have u2 := rUnsigned_m n hn
  rw [wz_nat] at cS u1 u2 ⊢
  rw [wz_nat, wz_nat]
  have cU := fun x hx => rOfU_m x hx
  refine fn_of Tryz.func47 rfl (Nat.le_of_ble_eq_true rfl) rfl rfl ?_
  (repeat' (first | refine r_4eabd4 ?_ | (refine r_48b933 (fun hb => ?_) (fun hb => ?_) <;> (try (exfalso; omega))) | (refine awp_cond rfl (fun hb => ?_) (fun hb => ?_) <;> (try simp only [Bool.not_eq_true', Bool.not_eq_false', decide_eq_true_eq, decide_eq_false_iff_not] at hb) <;> (try (exfalso; omega)))))
  refine awp_loop' (fun _ : Unit => dgS m n) (fun _ => True) (fun _ => 0) () trivial (by (refine Le.mk [(0,0),(1,1),(2,2)] [] q_5ec36 q_43730 q_16bb5 q_509a2)) fun _ _ => ?_
  change awp _ _ _ _ _ (dgS m n)
  by_cases h0 : n = 0
  · subst h0
    rw [Nat.gcd_zero_right]
    rw [show sgZ ((0 : Nat) : Int) = 0 from rfl] at cS
    (repeat' (first | refine r_4eabd4 ?_ | (refine is_f 46 ?_; refine r_bb2b31 (cS) ?_) | (refine r_48b933 (fun hb => ?_) (fun hb => ?_) <;> (try (exfalso; omega))) | (refine awp_cond rfl (fun hb => ?_) (fun hb => ?_) <;> (try simp only [Bool.not_eq_true', Bool.not_eq_false', decide_eq_true_eq, decide_eq_false_iff_not] at hb) <;> (try (exfalso; omega)))))
    all_goals (first | (exfalso; omega) | exact absurd rfl hb | exact ret1c [] (Rt.wd false m) rfl rfl rfl rfl (post_none rfl) rfl)
  · have hs : ¬ sgZ (n : Int) = 0 := by unfold sgZ; rw [if_neg (by omega), if_neg (by omega)]; omega
    generalize sgZ (n : Int) = sg at *
    (repeat' (first | refine r_4eabd4 ?_ | (refine is_f 46 ?_; refine r_bb2b31 (cS) ?_) | (refine is_f 83 ?_; refine r_bb2b31 (u1) ?_) | (refine is_f 83 ?_; refine r_bb2b31 (u2) ?_) | (refine r_48b933 (fun hb => ?_) (fun hb => ?_) <;> (try (exfalso; omega))) | (refine awp_cond rfl (fun hb => ?_) (fun hb => ?_) <;> (try simp only [Bool.not_eq_true', Bool.not_eq_false', decide_eq_true_eq, decide_eq_false_iff_not] at hb) <;> (try (exfalso; omega)))))
    all_goals (first | (exfalso; omega) | skip)
    refine awp_loop' (fun x : Nat × Nat => rgI m n x.1 x.2) (fun x => Nat.gcd x.1 x.2 = Nat.gcd m n ∧ x.1 < B64 ∧ x.2 < B64) (fun x => x.2) (m, n) ⟨rfl, hm, hn⟩ (by (refine Le.mk [(0,0),(1,1),(2,2)] [] q_5ec36 q_43730 q_16bb5 q_509a2)) fun x hx => ?_
    obtain ⟨x, y⟩ := x
    obtain ⟨hx1, hx2, hx3⟩ := hx
    dsimp only at hx1 hx2 hx3
    change awp _ _ _ _ _ (rgI m n x y)
    by_cases hy0 : y = 0
    · subst hy0
      rw [Nat.gcd_zero_right] at hx1
      rw [← hx1]
      have cU := cU x hx2
      rw [wz_nat] at cU
      (repeat' (first | refine r_4eabd4 ?_ | (refine is_f 84 ?_; refine r_bb2b31 (cU) ?_) | (refine r_48b933 (fun hb => ?_) (fun hb => ?_) <;> (try (exfalso; omega))) | (refine awp_cond rfl (fun hb => ?_) (fun hb => ?_) <;> (try simp only [Bool.not_eq_true', Bool.not_eq_false', decide_eq_true_eq, decide_eq_false_iff_not] at hb) <;> (try (exfalso; omega)))))
      all_goals (first | (exfalso; omega) | exact absurd rfl hb | exact ret1c [] (Rt.wd false x) rfl rfl rfl rfl (post_none rfl) rfl)
    · have hrem := u64_tmod x y
      have hlt := Nat.mod_lt x (Nat.pos_of_ne_zero hy0)
      have hg : Nat.gcd y (x % y) = Nat.gcd m n := by rw [← hx1, Nat.gcd_comm x y, Nat.gcd_rec y x, Nat.gcd_comm]
      have hyi : (y : Int) ≠ 0 := by omega
      clear cU
      generalize x % y = r at *
      (repeat' (first | refine r_4eabd4 ?_ | (refine r_48b933 (fun hb => ?_) (fun hb => ?_) <;> (try (exfalso; omega))) | (refine awp_cond rfl (fun hb => ?_) (fun hb => ?_) <;> (try simp only [Bool.not_eq_true', Bool.not_eq_false', decide_eq_true_eq, decide_eq_false_iff_not] at hb) <;> (try (exfalso; omega)))))
      all_goals (first | (exfalso; omega) | exact ⟨(y, r), ⟨hg, hx3, by show r < B64; omega⟩, by show Le _ _ (rgI m n y r); (refine Le.mk [(0,0),(1,1),(2,2)] [] q_5ec36 q_43730 q_16bb5 q_509a2), by show r < y; omega⟩)
end Go.Proofs.YtibedaeefnjjlaaGreat

/- The reference's fractions of one word: Valid, clean, Compare, Of. Conditions: ranges. --ext6 -/
namespace Go.Proofs.YtibedaeefnjjlaaGreat
open Go.RowKit Go.Ab Go.Wd
set_option maxRecDepth 100000
set_option linter.unusedVariables false
set_option linter.unusedSimpArgs false

/-- A valid fraction of one word. -/
def VS (p q : Int) : Prop := VR p q ∧ p.natAbs < B64 ∧ q.natAbs < B64
theorem rSmallZ_m (z : Int) (hz : W4 z) : Meets Tryz.prog 77 [wz z] [] (.r (.v (.bool (decide (z.natAbs < N127))))) [] := rSmallW_m _ _ hz
set_option maxHeartbeats 4000000 in
theorem rValidS_m (p q : Int) (h : VS p q) : Meets Tryz.prog 41 [rt p q] [] (.r (.v (.bool true))) [] := by
  obtain ⟨hv, hp, hq⟩ := h
  have v1 := validRZ_m p hv.w4n
  have v2 := validRZ_m q hv.w4d
  have cS := rSign_m q hv.w4d
  have s1 := rSmallZ_m p hv.w4n
  have s2 := rSmallZ_m q hv.w4d
  have cA := rAbs_m p hv.w4n
  have cO := rOne_m
  have h0 := hv.1
  have hqn : ((q.natAbs : Nat) : Int) = q := by omega
  have cG := rGcdS_m p.natAbs q.natAbs hp hq
  rw [hv.2.2.2, hqn] at cG
  rw [decide_eq_true hv.2.1] at s1
  rw [decide_eq_true hv.2.2.1] at s2
  have hsg : sgZ q = 1 := by unfold sgZ; rw [if_neg (by omega), if_neg (by omega)]
  rw [hsg] at cS
  have h1w := wone
  refine fn_of Tryz.func41 rfl (Nat.le_of_ble_eq_true rfl) rfl rfl ?_
  (repeat' (first | (refine is_bin ?_; refine is_b_eql ?_; refine w_read rfl q_85eb5 (p_eqwz h1w h1w (decide_eq_true rfl) rfl rfl) ?_) | refine r_4eabd4 ?_ | (refine is_f 45 ?_; refine r_bb2b31 (v1) ?_) | (refine is_f 45 ?_; refine r_bb2b31 (v2) ?_) | (refine is_f 46 ?_; refine r_bb2b31 (cS) ?_) | (refine is_f 77 ?_; refine r_bb2b31 (s1) ?_) | (refine is_f 77 ?_; refine r_bb2b31 (s2) ?_) | (refine is_f 48 ?_; refine r_bb2b31 (cA) ?_) | (refine is_f 47 ?_; refine r_bb2b31 (cG) ?_) | (refine is_f 60 ?_; refine r_bb2b31 (cO) ?_) | (refine r_48b933 (fun hb => ?_) (fun hb => ?_) <;> (try (exfalso; omega))) | (refine awp_cond rfl (fun hb => ?_) (fun hb => ?_) <;> (try simp only [Bool.not_eq_true', Bool.not_eq_false', decide_eq_true_eq, decide_eq_false_iff_not] at hb) <;> (try (exfalso; omega)))))
  all_goals (first | (exfalso; omega) | exact ret1 [] (.bool rfl) rfl rfl rfl)
theorem rCleanS_m (p q : Int) (h : VS p q) : Meets Tryz.prog 42 [rt p q] [] (rt p q) [] := by
  have cV := rValidS_m p q h
  refine fn_of Tryz.func42 rfl (Nat.le_of_ble_eq_true rfl) rfl rfl ?_
  (repeat' (first | refine r_4eabd4 ?_ | (refine is_f 41 ?_; refine r_bb2b31 (cV) ?_) | (refine r_48b933 (fun hb => ?_) (fun hb => ?_) <;> (try (exfalso; omega))) | (refine awp_cond rfl (fun hb => ?_) (fun hb => ?_) <;> (try simp only [Bool.not_eq_true', Bool.not_eq_false', decide_eq_true_eq, decide_eq_false_iff_not] at hb) <;> (try (exfalso; omega)))))
  all_goals exact ret1c [] (Rt.rt p q) rfl rfl rfl rfl (post_none rfl) rfl
set_option maxHeartbeats 4000000 in
theorem rCmpS_m (p q r s : Int) (h1 : VS p q) (h2 : VS r s) : Meets Tryz.prog 18 [rt p q, rt r s] [] (.r (.v (.int .i64 (cmpZ (p * s) (r * q))))) [] := by
  have c1 := rCleanS_m p q h1
  have c2 := rCleanS_m r s h2
  have m1 := rMul_m p s h1.1.w4n h2.1.w4d (mul_w4 h1.1.2.1 h2.1.2.2.1)
  have m2 := rMul_m r q h2.1.w4n h1.1.w4d (mul_w4 h2.1.2.1 h1.1.2.2.1)
  have cC := rCompare_m (p * s) (r * q) (mul_w4 h1.1.2.1 h2.1.2.2.1) (mul_w4 h2.1.2.1 h1.1.2.2.1)
  generalize p * s = x at *
  generalize r * q = y at *
  refine fn_of Tryz.func18 rfl (Nat.le_of_ble_eq_true rfl) rfl rfl ?_
  (repeat' (first | refine r_4eabd4 ?_ | (refine is_f 42 ?_; refine r_bb2b31 (c1) ?_) | (refine is_f 42 ?_; refine r_bb2b31 (c2) ?_) | (refine is_f 43 ?_; refine r_bb2b31 (m1) ?_) | (refine is_f 43 ?_; refine r_bb2b31 (m2) ?_) | (refine is_f 44 ?_; refine r_bb2b31 (cC) ?_) | (refine r_48b933 (fun hb => ?_) (fun hb => ?_) <;> (try (exfalso; omega))) | (refine awp_cond rfl (fun hb => ?_) (fun hb => ?_) <;> (try simp only [Bool.not_eq_true', Bool.not_eq_false', decide_eq_true_eq, decide_eq_false_iff_not] at hb) <;> (try (exfalso; omega)))))
  all_goals exact ret1 [] (.int rfl) rfl rfl rfl
theorem rOfQ_m (v : Int) (hv : I64 v) : Meets Tryz.prog 31 [.r (.v (.int .i64 v))] [] (rt v 1) [] := by
  have c1 := rOf_m v hv
  refine fn_of Tryz.func31 rfl (Nat.le_of_ble_eq_true rfl) rfl rfl ?_
  (repeat' (first | refine r_4eabd4 ?_ | (refine is_f 21 ?_; refine r_bb2b31 (c1) ?_) | (refine is_f 60 ?_; refine r_bb2b31 (rOne_m) ?_) | (refine r_48b933 (fun hb => ?_) (fun hb => ?_) <;> (try (exfalso; omega))) | (refine awp_cond rfl (fun hb => ?_) (fun hb => ?_) <;> (try simp only [Bool.not_eq_true', Bool.not_eq_false', decide_eq_true_eq, decide_eq_false_iff_not] at hb) <;> (try (exfalso; omega)))))
  all_goals exact ret1c [] (Rt.rt v 1) rfl rfl rfl rfl (post_none rfl) rfl
end Go.Proofs.YtibedaeefnjjlaaGreat

/- The reference's fractions of one word: Make. Conditions: ranges. --ext6 -/
namespace Go.Proofs.YtibedaeefnjjlaaGreat
open Go.RowKit Go.Ab Go.Wd
set_option maxRecDepth 100000
set_option linter.unusedVariables false
set_option linter.unusedSimpArgs false

theorem B64_N127 {n : Nat} (h : n < B64) : n < N127 := by unfold N127; unfold B64 at h; omega
theorem mkVS0 (z : Int) (m n : Nat) (hm : m < B64) (hn : n < B64) (hn0 : n ≠ 0) (hz : z.natAbs = m / Nat.gcd m n) : VS z ((n / Nat.gcd m n : Nat) : Int) := by
  have hg : 0 < Nat.gcd m n := Nat.gcd_pos_of_pos_right _ (Nat.pos_of_ne_zero hn0)
  have h1 : m / Nat.gcd m n < B64 := Nat.lt_of_le_of_lt (Nat.div_le_self _ _) hm
  have h2 : n / Nat.gcd m n < B64 := Nat.lt_of_le_of_lt (Nat.div_le_self _ _) hn
  have h3 : 0 < n / Nat.gcd m n := Nat.div_pos (Nat.le_of_dvd (Nat.pos_of_ne_zero hn0) (Nat.gcd_dvd_right _ _)) hg
  refine ⟨⟨by omega, ?_, ?_, ?_⟩, ?_, ?_⟩
  · rw [hz]; exact B64_N127 h1
  · rw [Int.natAbs_natCast]; exact B64_N127 h2
  · rw [hz, Int.natAbs_natCast]; exact Nat.gcd_div_gcd_div_gcd_of_pos_right (Nat.pos_of_ne_zero hn0)
  · rw [hz]; exact h1
  · rw [Int.natAbs_natCast]; exact h2
theorem divG_m (m n : Nat) (hm : m < B64) (hn : n < B64) (hn0 : n ≠ 0) : Meets Tryz.prog 49 [wz (m : Int), wz (n : Int)] [] (.tu [wz ((m / n : Nat) : Int), wz ((m % n : Nat) : Int), .r (.v (.bool true))]) [] :=
  rDivModN_m m n (N127_w4 (B64_N127 hm)) (N127_w4 (B64_N127 hn)) hn0 (refDivmodS_m m n hm hn hn0)
set_option maxHeartbeats 2000000 in
theorem rMakeP_m (m n : Nat) (hm : m < B64) (hn : n < B64) (hn0 : n ≠ 0) : Meets Tryz.prog 22 [wz (m : Int), wz (n : Int)] [] (.tu [rt ((m / Nat.gcd m n : Nat) : Int) ((n / Nat.gcd m n : Nat) : Int), .r (.v (.bool true))]) [] := by
  have hM : W4 (m : Int) := w4_nat (N127_w4 (B64_N127 hm))
  have hN : W4 (n : Int) := w4_nat (N127_w4 (B64_N127 hn))
  have v1 := validRZ_m (m : Int) hM
  have v2 := validRZ_m (n : Int) hN
  have cS := rSign_m (n : Int) hN
  have a1 := rAbs_m (m : Int) hM
  have a2 := rAbs_m (n : Int) hN
  rw [Int.natAbs_natCast] at a1 a2
  have cG := rGcdS_m m n hm hn
  have hg0 : Nat.gcd m n ≠ 0 := Nat.pos_iff_ne_zero.mp (Nat.gcd_pos_of_pos_right _ (Nat.pos_of_ne_zero hn0))
  have hgB : Nat.gcd m n < B64 := Nat.lt_of_le_of_lt (Nat.gcd_le_right _ (Nat.pos_of_ne_zero hn0)) hn
  have d1 := divG_m m _ hm hgB hg0
  have d2 := divG_m n _ hn hgB hg0
  have cV := rValidS_m _ _ (mkVS0 ((m / Nat.gcd m n : Nat) : Int) m n hm hn hn0 (Int.natAbs_natCast _))
  have hsg : sgZ (n : Int) = 1 := by unfold sgZ; rw [if_neg (by omega), if_neg (by omega)]
  rw [hsg] at cS
  generalize m % Nat.gcd m n = x1 at *
  generalize n % Nat.gcd m n = x2 at *
  generalize m / Nat.gcd m n = a at *
  generalize n / Nat.gcd m n = b at *
  generalize Nat.gcd m n = g at *
  rw [wz_nat m] at v1 a1 cG d1 ⊢
  rw [wz_nat n] at v2 a2 cG d2 cS ⊢
  unfold wd at *
  generalize m / B64 / B64 / B64 % B64 = u3 at *
  generalize m / B64 / B64 % B64 = u2 at *
  generalize m / B64 % B64 = u1 at *
  generalize m % B64 = u0 at *
  generalize n / B64 / B64 / B64 % B64 = w3 at *
  generalize n / B64 / B64 % B64 = w2 at *
  generalize n / B64 % B64 = w1 at *
  generalize n % B64 = w0 at *
  refine fn_of Tryz.func22 rfl (Nat.le_of_ble_eq_true rfl) rfl rfl ?_
  (repeat' (first | refine r_4eabd4 ?_ | (refine is_f 45 ?_; refine r_bb2b31 (v1) ?_) | (refine is_f 45 ?_; refine r_bb2b31 (v2) ?_) | (refine is_f 46 ?_; refine r_bb2b31 (cS) ?_) | (refine is_f 48 ?_; refine r_bb2b31 (a1) ?_) | (refine is_f 48 ?_; refine r_bb2b31 (a2) ?_) | (refine is_f 47 ?_; refine r_bb2b31 (cG) ?_) | (refine is_f 49 ?_; refine r_bb2b31 (d1) ?_) | (refine is_f 49 ?_; refine r_bb2b31 (d2) ?_) | (refine is_f 41 ?_; refine r_bb2b31 (cV) ?_) | (refine r_48b933 (fun hb => ?_) (fun hb => ?_) <;> (try (exfalso; omega))) | (refine awp_cond rfl (fun hb => ?_) (fun hb => ?_) <;> (try simp only [Bool.not_eq_true', Bool.not_eq_false', decide_eq_true_eq, decide_eq_false_iff_not] at hb) <;> (try (exfalso; omega)))))
  all_goals (first | (exfalso; omega) | exact ret2c [] (Rt.rt a b) (.bool rfl) rfl rfl rfl rfl rfl (post_none rfl) rfl)
set_option maxHeartbeats 2000000 in
theorem rMakeN_m (m n : Nat) (hm : m < B64) (hm0 : m ≠ 0) (hn : n < B64) (hn0 : n ≠ 0) : Meets Tryz.prog 22 [wz (-(m : Int)), wz (n : Int)] [] (.tu [rt (-((m / Nat.gcd m n : Nat) : Int)) ((n / Nat.gcd m n : Nat) : Int), .r (.v (.bool true))]) [] := by
  have hM : W4 (-(m : Int)) := by unfold W4; rw [Int.natAbs_neg, Int.natAbs_natCast]; exact N127_w4 (B64_N127 hm)
  have hN : W4 (n : Int) := w4_nat (N127_w4 (B64_N127 hn))
  have v1 := validRZ_m (-(m : Int)) hM
  have v2 := validRZ_m (n : Int) hN
  have cS := rSign_m (n : Int) hN
  have a1 := rAbs_m (-(m : Int)) hM
  have a2 := rAbs_m (n : Int) hN
  rw [Int.natAbs_neg] at a1
  rw [Int.natAbs_natCast] at a1 a2
  have cG := rGcdS_m m n hm hn
  have hg0 : Nat.gcd m n ≠ 0 := Nat.pos_iff_ne_zero.mp (Nat.gcd_pos_of_pos_right _ (Nat.pos_of_ne_zero hn0))
  have hgB : Nat.gcd m n < B64 := Nat.lt_of_le_of_lt (Nat.gcd_le_right _ (Nat.pos_of_ne_zero hn0)) hn
  have d1 := divG_m m _ hm hgB hg0
  have d2 := divG_m n _ hn hgB hg0
  have hA : W4 ((m / Nat.gcd m n : Nat) : Int) := w4_nat (N127_w4 (B64_N127 (Nat.lt_of_le_of_lt (Nat.div_le_self _ _) hm)))
  have cN := rNeg_m _ hA
  have cV := rValidS_m _ _ (mkVS0 (-((m / Nat.gcd m n : Nat) : Int)) m n hm hn hn0 (by rw [Int.natAbs_neg, Int.natAbs_natCast]))
  have hsg : sgZ (n : Int) = 1 := by unfold sgZ; rw [if_neg (by omega), if_neg (by omega)]
  rw [hsg] at cS
  generalize m % Nat.gcd m n = x1 at *
  generalize n % Nat.gcd m n = x2 at *
  generalize m / Nat.gcd m n = a at *
  generalize n / Nat.gcd m n = b at *
  generalize Nat.gcd m n = g at *
  rw [wz_neg m hm0] at v1 a1 ⊢
  rw [wz_nat m] at a1 cG d1
  rw [wz_nat n] at v2 a2 cG d2 cS ⊢
  unfold wd at *
  generalize m / B64 / B64 / B64 % B64 = u3 at *
  generalize m / B64 / B64 % B64 = u2 at *
  generalize m / B64 % B64 = u1 at *
  generalize m % B64 = u0 at *
  generalize n / B64 / B64 / B64 % B64 = w3 at *
  generalize n / B64 / B64 % B64 = w2 at *
  generalize n / B64 % B64 = w1 at *
  generalize n % B64 = w0 at *
  refine fn_of Tryz.func22 rfl (Nat.le_of_ble_eq_true rfl) rfl rfl ?_
  (repeat' (first | refine r_4eabd4 ?_ | (refine is_f 45 ?_; refine r_bb2b31 (v1) ?_) | (refine is_f 45 ?_; refine r_bb2b31 (v2) ?_) | (refine is_f 46 ?_; refine r_bb2b31 (cS) ?_) | (refine is_f 48 ?_; refine r_bb2b31 (a1) ?_) | (refine is_f 48 ?_; refine r_bb2b31 (a2) ?_) | (refine is_f 47 ?_; refine r_bb2b31 (cG) ?_) | (refine is_f 49 ?_; refine r_bb2b31 (d1) ?_) | (refine is_f 49 ?_; refine r_bb2b31 (d2) ?_) | (refine is_f 50 ?_; refine r_bb2b31 (cN) ?_) | (refine is_f 41 ?_; refine r_bb2b31 (cV) ?_) | (refine r_48b933 (fun hb => ?_) (fun hb => ?_) <;> (try (exfalso; omega))) | (refine awp_cond rfl (fun hb => ?_) (fun hb => ?_) <;> (try simp only [Bool.not_eq_true', Bool.not_eq_false', decide_eq_true_eq, decide_eq_false_iff_not] at hb) <;> (try (exfalso; omega)))))
  all_goals (first | (exfalso; omega) | exact ret2c [] (Rt.rt (-(a : Int)) b) (.bool rfl) rfl rfl rfl rfl rfl (post_none rfl) rfl)
end Go.Proofs.YtibedaeefnjjlaaGreat

/- The reference's cones: Start, Valid, Contains. Conditions: valid ones of one word. --ext6 -/
namespace Go.Proofs.YtibedaeefnjjlaaGreat
open Go.RowKit Go.Ab Go.Wd
set_option maxRecDepth 100000
set_option linter.unusedVariables false
set_option linter.unusedSimpArgs false

set_option maxHeartbeats 1000000 in
theorem rcStart_m : Meets Tryz.prog 19 [] [] (cn true 0 0 0 0) [] := by
  refine fn_of Tryz.func19 rfl (Nat.le_of_ble_eq_true rfl) rfl rfl ?_
  (repeat' (first | refine r_4eabd4 ?_ | (refine r_48b933 (fun hb => ?_) (fun hb => ?_) <;> (try (exfalso; omega))) | (refine awp_cond rfl (fun hb => ?_) (fun hb => ?_) <;> (try simp only [Bool.not_eq_true', Bool.not_eq_false', decide_eq_true_eq, decide_eq_false_iff_not] at hb) <;> (try (exfalso; omega)))))
  all_goals exact ret1c [] (Rt.cn _ _ _ _ _) rfl rfl rfl rfl (post_none rfl) rfl
set_option maxHeartbeats 8000000 in
theorem rcValid0_m : Meets Tryz.prog 40 [cn true 0 0 0 0] [] (.r (.v (.bool true))) [] := by
  refine fn_of Tryz.func40 rfl (Nat.le_of_ble_eq_true rfl) rfl rfl ?_
  (repeat' (first | (refine is_bin ?_; refine is_b_eql ?_; refine w_read rfl q_85eb5 (p_eqcn0 rfl rfl) ?_) | refine r_4eabd4 ?_ | (refine is_f 19 ?_; refine r_bb2b31 (rcStart_m) ?_) | (refine r_48b933 (fun hb => ?_) (fun hb => ?_) <;> (try (exfalso; omega))) | (refine awp_cond rfl (fun hb => ?_) (fun hb => ?_) <;> (try simp only [Bool.not_eq_true', Bool.not_eq_false', decide_eq_true_eq, decide_eq_false_iff_not] at hb) <;> (try (exfalso; omega)))))
  all_goals exact ret1 [] (.bool rfl) rfl rfl rfl
set_option maxHeartbeats 1000000 in
theorem rcValid_m (p q r s : Int) (h1 : VS p q) (h2 : VS r s) (h3 : p * s ≤ r * q) : Meets Tryz.prog 40 [cn false p q r s] [] (.r (.v (.bool true))) [] := by
  have v1 := rValidS_m p q h1
  have v2 := rValidS_m r s h2
  have cC := rCmpS_m p q r s h1 h2
  have hcmp := cmpZ_le h3
  generalize cmpZ (p * s) (r * q) = e at *
  refine fn_of Tryz.func40 rfl (Nat.le_of_ble_eq_true rfl) rfl rfl ?_
  (repeat' (first | refine r_4eabd4 ?_ | (refine is_f 41 ?_; refine r_bb2b31 (v1) ?_) | (refine is_f 41 ?_; refine r_bb2b31 (v2) ?_) | (refine is_f 18 ?_; refine r_bb2b31 (cC) ?_) | (refine r_48b933 (fun hb => ?_) (fun hb => ?_) <;> (try (exfalso; omega))) | (refine awp_cond rfl (fun hb => ?_) (fun hb => ?_) <;> (try simp only [Bool.not_eq_true', Bool.not_eq_false', decide_eq_true_eq, decide_eq_false_iff_not] at hb) <;> (try (exfalso; omega)))))
  all_goals (first | (exfalso; omega) | exact ret1 [] (.bool rfl) rfl rfl rfl)
set_option maxHeartbeats 1000000 in
theorem rContains0_m (u v : Int) (h : VS u v) : Meets Tryz.prog 16 [cn true 0 0 0 0, rt u v] [] (.r (.v (.bool true))) [] := by
  have v1 := rValidS_m u v h
  refine fn_of Tryz.func16 rfl (Nat.le_of_ble_eq_true rfl) rfl rfl ?_
  (repeat' (first | refine r_4eabd4 ?_ | (refine is_f 41 ?_; refine r_bb2b31 (v1) ?_) | (refine is_f 40 ?_; refine r_bb2b31 (rcValid0_m) ?_) | (refine r_48b933 (fun hb => ?_) (fun hb => ?_) <;> (try (exfalso; omega))) | (refine awp_cond rfl (fun hb => ?_) (fun hb => ?_) <;> (try simp only [Bool.not_eq_true', Bool.not_eq_false', decide_eq_true_eq, decide_eq_false_iff_not] at hb) <;> (try (exfalso; omega)))))
  all_goals (first | (exfalso; omega) | exact ret1 [] (.bool rfl) rfl rfl rfl)
set_option maxHeartbeats 2000000 in
theorem rContains_m (p q r s u v : Int) (h1 : VS p q) (h2 : VS r s) (h3 : p * s ≤ r * q) (h : VS u v) : Meets Tryz.prog 16 [cn false p q r s, rt u v] [] (.r (.v (.bool (decide (p * v ≤ u * q ∧ u * s ≤ r * v))))) [] := by
  have v1 := rValidS_m u v h
  have cV := rcValid_m p q r s h1 h2 h3
  have c1 := rCmpS_m p q u v h1 h
  have c2 := rCmpS_m u v r s h h2
  have k1 : ¬ cmpZ (p * v) (u * q) ≤ 0 → false = decide (p * v ≤ u * q ∧ u * s ≤ r * v) := fun hc => (decide_eq_false (fun hh => hc (cmpZ_le hh.1))).symm
  have k2 : ¬ cmpZ (u * s) (r * v) ≤ 0 → false = decide (p * v ≤ u * q ∧ u * s ≤ r * v) := fun hc => (decide_eq_false (fun hh => hc (cmpZ_le hh.2))).symm
  have k3 : cmpZ (p * v) (u * q) ≤ 0 → cmpZ (u * s) (r * v) ≤ 0 → true = decide (p * v ≤ u * q ∧ u * s ≤ r * v) := fun ha hb => by
    refine (decide_eq_true ⟨?_, ?_⟩).symm
    · unfold cmpZ at ha; split at ha <;> (try split at ha) <;> omega
    · unfold cmpZ at hb; split at hb <;> (try split at hb) <;> omega
  generalize decide (p * v ≤ u * q ∧ u * s ≤ r * v) = res at *
  generalize cmpZ (p * v) (u * q) = e1 at *
  generalize cmpZ (u * s) (r * v) = e2 at *
  refine fn_of Tryz.func16 rfl (Nat.le_of_ble_eq_true rfl) rfl rfl ?_
  (repeat' (first | refine r_4eabd4 ?_ | (refine is_f 41 ?_; refine r_bb2b31 (v1) ?_) | (refine is_f 40 ?_; refine r_bb2b31 (cV) ?_) | (refine is_f 18 ?_; refine r_bb2b31 (c1) ?_) | (refine is_f 18 ?_; refine r_bb2b31 (c2) ?_) | (refine r_48b933 (fun hb => ?_) (fun hb => ?_) <;> (try (exfalso; omega))) | (refine awp_cond rfl (fun hb => ?_) (fun hb => ?_) <;> (try simp only [Bool.not_eq_true', Bool.not_eq_false', decide_eq_true_eq, decide_eq_false_iff_not] at hb) <;> (try (exfalso; omega)))))
  all_goals (first | (exfalso; omega) | exact ret1 [] (.bool (k3 (by assumption) (by assumption))) rfl rfl rfl | exact ret1 [] (.bool (k1 (by omega))) rfl rfl rfl | exact ret1 [] (.bool (k2 (by omega))) rfl rfl rfl | (rw [← k1 (by omega)]; exact ret1 [] (.bool rfl) rfl rfl rfl) | (rw [← k2 (by omega)]; exact ret1 [] (.bool rfl) rfl rfl rfl) | (rw [← k3 (by omega) (by omega)]; exact ret1 [] (.bool rfl) rfl rfl rfl))
end Go.Proofs.YtibedaeefnjjlaaGreat

/- The reference's cones: Meet. Conditions: valid ones of one word. --ext6 -/
namespace Go.Proofs.YtibedaeefnjjlaaGreat
open Go.RowKit Go.Ab Go.Wd
set_option maxRecDepth 100000
set_option linter.unusedVariables false
set_option linter.unusedSimpArgs false

theorem mLo_VS {p q p' q' : Int} (h : VS p q) (h' : VS p' q') : VS (mLo p q p' q').1 (mLo p q p' q').2 := by unfold mLo; split <;> assumption
theorem mHi_VS {p q p' q' : Int} (h : VS p q) (h' : VS p' q') : VS (mHi p q p' q').1 (mHi p q p' q').2 := by unfold mHi; split <;> assumption
end Go.Proofs.YtibedaeefnjjlaaGreat
