/- Texts of the second layer in one: Wr2 Wr3 Wr5 Wr6. -/
import Derived.Test.YtibedaeefnjjlaaGreatG33
import Derived.Test.YtibedaeefnjjlaaGreatG19
import Derived.Test.YtibedaeefnjjlaaGreatG20
/- The reference's sum of magnitudes. Conditions: lengths. --ext6 -/
namespace Go.Proofs.YtibedaeefnjjlaaGreat
open Go.RowKit Go.Ab Go.Wd
set_option maxRecDepth 100000
set_option linter.unusedVariables false
set_option linter.unusedSimpArgs false

end Go.Proofs.YtibedaeefnjjlaaGreat

/- The reference's magnitudes: size, half. Conditions: lengths. --ext6 -/
namespace Go.Proofs.YtibedaeefnjjlaaGreat
open Go.RowKit Go.Ab Go.Wd
set_option maxRecDepth 100000
set_option linter.unusedVariables false
set_option linter.unusedSimpArgs false

def rhS (l : List Nat) (i : Nat) : St := ⟨[(0, .ow 0), (3, .r (.v (.int .i64 (i : Int))))], [(0, some (.row 33 1 (wns l)))], 1⟩
/-- The words of a half, in place: the first i are done. -/
def hfL (n i : Nat) (l : List Nat) : List Nat := (List.range l.length).map fun p => if p < i then wo (n / 2) p else wo n p
end Go.Proofs.YtibedaeefnjjlaaGreat

/- The reference's magnitudes: divmod of numbers of one word. Conditions: ranges. --ext6 -/
namespace Go.Ab
open Go.RowKit
theorem Meets.freezeFF {P : Program} {f : FuncId} {args : List AV} {T sz T' sz' : Nat} {es es' : List (List RV)} (h : Meets P f args [] (.tu [.fr T sz es, .fr T' sz' es']) []) : Meets P f args [] (.tu [.r (.sl sz es), .r (.sl sz' es')]) [] := by
  intro w Z M k us hM hk hargs hpre hd
  refine (h w Z M k us hM hk hargs hpre hd).mono fun e w' ⟨v, he, Z', A⟩ => ⟨v, he, Z, fun _ _ => rfl, ?_, fun i b h => by simp [callSp, numdP] at h, fun j b h => by simp [callSp, AV.unfr, AV.unfrs] at h, fun j j' x h => by simp [callSp, AV.unfr, AV.unfrs] at h, fun j x h => by simp [callSp, AV.unfr, AV.unfrs] at h, A.upto⟩
  have h1 := A.out
  have h2 := A.fr 0 (.row T sz es) (by simp [callSp, AV.unfr, AV.unfrs])
  have h3 := A.fresh 0
  have g2 := A.fr 1 (.row T' sz' es') (by simp [callSp, AV.unfr, AV.unfrs])
  have g3 := A.fresh 1
  simp only [callSp, AV.unfr, AV.unfrs, AV.rep, AV.reps, Nat.add_zero] at h1 h2 h3 g2 g3 ⊢
  obtain ⟨us', e1, u, us2, e2, h5, u', us3, e4, h6, e5⟩ := h1
  refine ⟨us', e1, u, us2, e2, ?_, u', us3, e4, ?_, e5⟩
  · rw [h5]
    refine row_read h2 (fun q _ hq => hq.imp (fun h => h) (fun ⟨j, hj, _⟩ => by simp at hj)) fun x hx hn => ?_
    have h4 := h3 x (by simp) hx
    rcases hn with h0 | ⟨j, hj, _⟩
    · rcases h4 with h4 | ⟨i, hi, _⟩
      · have := hM x h0; omega
      · simp [numdP] at hi
    · simp at hj
  · rw [h6]
    refine row_read g2 (fun q _ hq => hq.imp (fun h => h) (fun ⟨j, hj, _⟩ => by simp at hj)) fun x hx hn => ?_
    have h4 := g3 x (by simp) hx
    rcases hn with h0 | ⟨j, hj, _⟩
    · rcases h4 with h4 | ⟨i, hi, _⟩
      · have := hM x h0; omega
      · simp [numdP] at hi
    · simp at hj
end Go.Ab
namespace Go.Proofs.YtibedaeefnjjlaaGreat
open Go.RowKit Go.Ab Go.Wd
set_option maxRecDepth 100000
set_option linter.unusedVariables false
set_option linter.unusedSimpArgs false

theorem u64_tdiv (a b : Nat) (ha : a < B64) : IntKind.u64.wrap (Int.tdiv (a : Int) (b : Int)) = ((a / b : Nat) : Int) := by
  have h : Int.tdiv (a : Int) (b : Int) = ((a / b : Nat) : Int) := by rw [Int.tdiv_eq_ediv_of_nonneg (by omega)]; simp
  have h2 : a / b ≤ a := Nat.div_le_self _ _
  rw [h]
  generalize a / b = q at *
  rw [IntKind.wrap_u64]; unfold B64 at ha; omega
theorem u64_tmod (a b : Nat) : Int.tmod (a : Int) (b : Int) = ((a % b : Nat) : Int) := by
  rw [Int.tmod_eq_emod_of_nonneg (by omega)]; simp
/-- Div64 of a number of one word. -/
theorem div64z_m (x y : Nat) (hx : x < B64) (hy : y < B64) (hy0 : y ≠ 0) : Meets Tryz.prog 118 [.r (.v (.int .u64 0)), .r (.v (.int .u64 (x : Int))), .r (.v (.int .u64 (y : Int)))] [] (.tu [.r (.v (.int .u64 ((x / y : Nat) : Int))), .r (.v (.int .u64 ((x % y : Nat) : Int)))]) [] := by
  have h1 := u64_tdiv x y hx
  have h2 := u64_tmod x y
  have hy1 : (y : Int) ≠ 0 := by omega
  generalize x / y = q at *
  generalize x % y = r at *
  refine fn_of Tryz.func118 rfl (Nat.le_of_ble_eq_true rfl) rfl rfl ?_
  (repeat' (first | refine r_4eabd4 ?_ | (refine r_48b933 (fun hb => ?_) (fun hb => ?_) <;> (try (exfalso; omega))) | (refine awp_cond rfl (fun hb => ?_) (fun hb => ?_) <;> (try simp only [Bool.not_eq_true', Bool.not_eq_false', decide_eq_true_eq, decide_eq_false_iff_not] at hb) <;> (try (exfalso; omega)))))
  all_goals (first | (exfalso; omega) | exact ret2 [] (.int rfl) (.int rfl) rfl rfl rfl rfl)
theorem tw_one {x : Nat} (h : x ≠ 0) (hx : x < B64) : tw x = [x] := by
  rw [tw_pos h, Nat.mod_eq_of_lt hx, Nat.div_eq_of_lt hx, tw_zero]
theorem trim_one (x : Nat) (hx : x < B64) : trim [x] = tw x := by
  rw [trim_tw [x] (fun a ha => by simp at ha; subst ha; exact hx)]
  simp [val]
def rd1S (xs ys ql : List Nat) (rr : Nat) (z : Int) : St := ⟨[(0, .r (.sl 1 (wns xs))), (1, .r (.sl 1 (wns ys))), (6, .ow 0), (7, .r (.v (.int .u64 (rr : Int)))), (8, .r (.v (.int .i64 z)))], [(0, some (.row 33 1 (wns ql)))], 1⟩
theorem refDivmodS_m (x y : Nat) (hx : x < B64) (hy : y < B64) (hy0 : y ≠ 0) : Meets Tryz.prog 85 [.r (.sl 1 (wns (tw x))), .r (.sl 1 (wns (tw y)))] [] (.tu [.r (.sl 1 (wns (tw (x / y)))), .r (.sl 1 (wns (tw (x % y))))]) [] := by
  have hq : x / y < B64 := Nat.lt_of_le_of_lt (Nat.div_le_self _ _) hx
  have hr : x % y < B64 := Nat.lt_of_le_of_lt (Nat.mod_le _ _) hx
  have cD := div64z_m x y hx hy hy0
  rw [tw_one hy0 hy]
  refine Meets.freezeFF (T := 33) (T' := 33) ?_
  by_cases h0 : x = 0
  · subst h0
    have cA := trim_o [] (by simp)
    have cB := trim_o [0] (by simp)
    rw [show trim [] = [] from rfl] at cA
    rw [trim_one 0 (by decide), tw_zero] at cB
    rw [Nat.zero_div, Nat.zero_mod, tw_zero]
    have l0 : (wns []).length = 0 := rfl
    have hrep : List.replicate (wns []).length (List.map RV.v [Value.int IntKind.u64 0]) = wns [] := rfl
    have l1 : (wns [y]).length = 1 := rfl
    clear hq hr hx cD
    refine fn_of Tryz.func85 rfl (Nat.le_of_ble_eq_true rfl) rfl rfl ?_
    (repeat' (first | refine r_4eabd4 ?_ | (refine r_48b933 (fun hb => ?_) (fun hb => ?_) <;> (try (exfalso; omega))) | (refine awp_cond rfl (fun hb => ?_) (fun hb => ?_) <;> (try simp only [Bool.not_eq_true', Bool.not_eq_false', decide_eq_true_eq, decide_eq_false_iff_not] at hb) <;> (try (exfalso; omega)))))
    all_goals (first | (exfalso; omega) | skip)
    refine awp_loop' (fun _ : Unit => rd1S [] [y] [] 0 (-1)) (fun _ => True) (fun _ => 0) () trivial (by (refine Le.mk [(0,0)] [] q_5ec36 q_43730 q_16bb5 q_509a2)) fun u _ => ?_
    change awp _ _ _ _ _ (rd1S [] [y] [] 0 (-1))
    (repeat' (first | refine r_4eabd4 ?_ | (refine is_f 115 ?_; refine r_181b4d (cA) ?_) | (refine is_f 115 ?_; refine r_e0b6b3 (cB) ?_) | (refine r_48b933 (fun hb => ?_) (fun hb => ?_) <;> (try (exfalso; omega))) | (refine awp_cond rfl (fun hb => ?_) (fun hb => ?_) <;> (try simp only [Bool.not_eq_true', Bool.not_eq_false', decide_eq_true_eq, decide_eq_false_iff_not] at hb) <;> (try (exfalso; omega)))))
    all_goals (first | (exfalso; omega) | exact ret2 [] (.fr 1 _ _ _ rfl) (.fr 3 _ _ _ rfl) rfl rfl rfl rfl)
  · rw [tw_one h0 hx]
    have cA := trim_o [x / y] (by simp)
    have cB := trim_o [x % y] (by simp)
    rw [trim_one _ hq] at cA
    rw [trim_one _ hr] at cB
    generalize x / y = q at *
    generalize x % y = r at *
    have l0 : (wns [x]).length = 1 := rfl
    have hrep : List.replicate (wns [x]).length (List.map RV.v [Value.int IntKind.u64 0]) = wns [0] := rfl
    have hE : (wns [0]).set 0 [.v (.int .u64 (q : Int))] = wns [q] := rfl
    have l1 : (wns [y]).length = 1 := rfl
    refine fn_of Tryz.func85 rfl (Nat.le_of_ble_eq_true rfl) rfl rfl ?_
    (repeat' (first | refine r_4eabd4 ?_ | (refine r_48b933 (fun hb => ?_) (fun hb => ?_) <;> (try (exfalso; omega))) | (refine awp_cond rfl (fun hb => ?_) (fun hb => ?_) <;> (try simp only [Bool.not_eq_true', Bool.not_eq_false', decide_eq_true_eq, decide_eq_false_iff_not] at hb) <;> (try (exfalso; omega)))))
    all_goals (first | (exfalso; omega) | skip)
    refine awp_loop' (fun b : Bool => match b with | false => rd1S [x] [y] [0] 0 0 | true => rd1S [x] [y] [q] r (-1)) (fun _ => True) (fun b => match b with | false => 1 | true => 0) false trivial (by (refine Le.mk [(0,0)] [] q_5ec36 q_43730 q_16bb5 q_509a2)) fun b _ => ?_
    cases b with
    | false =>
      change awp _ _ _ _ _ (rd1S [x] [y] [0] 0 0)
      (repeat' (first | refine r_4eabd4 ?_ | (refine is_f 118 ?_; refine r_bb2b31 (cD) ?_) | (refine r_48b933 (fun hb => ?_) (fun hb => ?_) <;> (try (exfalso; omega))) | (refine awp_cond rfl (fun hb => ?_) (fun hb => ?_) <;> (try simp only [Bool.not_eq_true', Bool.not_eq_false', decide_eq_true_eq, decide_eq_false_iff_not] at hb) <;> (try (exfalso; omega)))))
      all_goals (first | (exfalso; omega) | exact ⟨true, trivial, by show Le _ _ (rd1S [x] [y] [q] r (-1)); (refine Le.mk [(0,0)] [] q_5ec36 q_43730 q_16bb5 q_509a2), by decide⟩)
    | true =>
      change awp _ _ _ _ _ (rd1S [x] [y] [q] r (-1))
      (repeat' (first | refine r_4eabd4 ?_ | (refine is_f 115 ?_; refine r_181b4d (cA) ?_) | (refine is_f 115 ?_; refine r_e0b6b3 (cB) ?_) | (refine r_48b933 (fun hb => ?_) (fun hb => ?_) <;> (try (exfalso; omega))) | (refine awp_cond rfl (fun hb => ?_) (fun hb => ?_) <;> (try simp only [Bool.not_eq_true', Bool.not_eq_false', decide_eq_true_eq, decide_eq_false_iff_not] at hb) <;> (try (exfalso; omega)))))
      all_goals (first | (exfalso; omega) | exact ret2 [] (.fr 1 _ _ _ rfl) (.fr 3 _ _ _ rfl) rfl rfl rfl rfl)
end Go.Proofs.YtibedaeefnjjlaaGreat

/- The reference's whole numbers with a sign: Valid, clean, Of, Sign, Neg, Unsigned, OfUnsigned. Conditions: ranges. --ext6 -/
namespace Go.Proofs.YtibedaeefnjjlaaGreat
open Go.RowKit Go.Ab Go.Wd
set_option maxRecDepth 100000
set_option linter.unusedVariables false
set_option linter.unusedSimpArgs false

theorem tw_len0 {n : Nat} : (wns (tw n)).length = 0 ↔ n = 0 := by
  rw [wns_len]
  constructor
  · intro h
    rcases Nat.eq_zero_or_pos n with h' | h'
    · exact h'
    · rw [tw_pos (by omega)] at h; simp at h
  · intro h; subst h; rw [tw_zero]; rfl
theorem validR_m (b : Bool) (n : Nat) (hn : n < B64 ^ 4) : Meets Tryz.prog 45 [wd b n] [] (.r (.v (.bool (vW b n)))) [] := by
  have cO := of_m b n hn
  have h0 := tw_len0 (n := n)
  have hT : n = 0 → b = true → false = vW b n := fun h g => by subst h g; rfl
  have hF : n ≠ 0 → true = vW b n := fun h => by unfold vW; rw [decide_eq_true h]; simp
  cases b with
  | false =>
    refine fn_of Tryz.func45 rfl (Nat.le_of_ble_eq_true rfl) rfl rfl ?_
    (repeat' (first | refine r_4eabd4 ?_ | (refine is_f 81 ?_; refine r_bb2b31 (cO) ?_) | (refine r_48b933 (fun hb => ?_) (fun hb => ?_) <;> (try (exfalso; omega))) | (refine awp_cond rfl (fun hb => ?_) (fun hb => ?_) <;> (try simp only [Bool.not_eq_true', Bool.not_eq_false', decide_eq_true_eq, decide_eq_false_iff_not] at hb) <;> (try (exfalso; omega)))))
    all_goals exact ret1 [] (.bool rfl) rfl rfl rfl
  | true =>
    by_cases h : n = 0
    · have hl := h0.2 h
      refine fn_of Tryz.func45 rfl (Nat.le_of_ble_eq_true rfl) rfl rfl ?_
      (repeat' (first | refine r_4eabd4 ?_ | (refine is_f 81 ?_; refine r_bb2b31 (cO) ?_) | (refine r_48b933 (fun hb => ?_) (fun hb => ?_) <;> (try (exfalso; omega))) | (refine awp_cond rfl (fun hb => ?_) (fun hb => ?_) <;> (try simp only [Bool.not_eq_true', Bool.not_eq_false', decide_eq_true_eq, decide_eq_false_iff_not] at hb) <;> (try (exfalso; omega)))))
      all_goals (first | (exfalso; omega) | exact ret1 [] (.bool (hT h rfl)) rfl rfl rfl)
    · have hl : ¬ (wns (tw n)).length = 0 := fun g => h (h0.1 g)
      refine fn_of Tryz.func45 rfl (Nat.le_of_ble_eq_true rfl) rfl rfl ?_
      (repeat' (first | refine r_4eabd4 ?_ | (refine is_f 81 ?_; refine r_bb2b31 (cO) ?_) | (refine r_48b933 (fun hb => ?_) (fun hb => ?_) <;> (try (exfalso; omega))) | (refine awp_cond rfl (fun hb => ?_) (fun hb => ?_) <;> (try simp only [Bool.not_eq_true', Bool.not_eq_false', decide_eq_true_eq, decide_eq_false_iff_not] at hb) <;> (try (exfalso; omega)))))
      all_goals (first | (exfalso; omega) | exact ret1 [] (.bool (hF h)) rfl rfl rfl)
theorem cleanR_m (b : Bool) (n : Nat) (hn : n < B64 ^ 4) : Meets Tryz.prog 78 [wd b n] [] (wz (zb b n)) [] := by
  have cV := validR_m b n hn
  rw [wz_zb]
  unfold vW at cV
  by_cases h : b = true ∧ n = 0
  · obtain ⟨rfl, rfl⟩ := h
    refine fn_of Tryz.func78 rfl (Nat.le_of_ble_eq_true rfl) rfl rfl ?_
    (repeat' (first | refine r_4eabd4 ?_ | (refine is_f 45 ?_; refine r_bb2b31 (cV) ?_) | (refine r_48b933 (fun hb => ?_) (fun hb => ?_) <;> (try (exfalso; omega))) | (refine awp_cond rfl (fun hb => ?_) (fun hb => ?_) <;> (try simp only [Bool.not_eq_true', Bool.not_eq_false', decide_eq_true_eq, decide_eq_false_iff_not] at hb) <;> (try (exfalso; omega)))))
    all_goals (first | (exfalso; omega) | exact ret1c [] (Rt.wd false 0) rfl rfl rfl rfl (post_none rfl) rfl)
  · have e1 : (!b || decide (n ≠ 0)) = true := by
      cases b with
      | false => rfl
      | true => simp only [Bool.not_true, Bool.false_or, decide_eq_true_eq]; exact fun h' => h ⟨rfl, h'⟩
    have e2 : (b && decide (n ≠ 0)) = b := by
      cases b with
      | false => rfl
      | true => simp only [Bool.true_and, decide_eq_true_eq]; exact fun h' => h ⟨rfl, h'⟩
    rw [e1] at cV
    rw [e2]
    refine fn_of Tryz.func78 rfl (Nat.le_of_ble_eq_true rfl) rfl rfl ?_
    (repeat' (first | refine r_4eabd4 ?_ | (refine is_f 45 ?_; refine r_bb2b31 (cV) ?_) | (refine r_48b933 (fun hb => ?_) (fun hb => ?_) <;> (try (exfalso; omega))) | (refine awp_cond rfl (fun hb => ?_) (fun hb => ?_) <;> (try simp only [Bool.not_eq_true', Bool.not_eq_false', decide_eq_true_eq, decide_eq_false_iff_not] at hb) <;> (try (exfalso; omega)))))
    all_goals (first | (exfalso; omega) | exact ret1c [] (Rt.wd b n) rfl rfl rfl rfl (post_none rfl) rfl)
theorem zb_wz (z : Int) : zb (decide (z < 0)) z.natAbs = z := by
  unfold zb
  by_cases h : z < 0
  · rw [decide_eq_true h, if_pos rfl]; omega
  · rw [decide_eq_false h, if_neg (by simp)]; omega
theorem cleanRZ_m (z : Int) (hz : z.natAbs < B64 ^ 4) : Meets Tryz.prog 78 [wz z] [] (wz z) [] := by
  have h := cleanR_m (decide (z < 0)) z.natAbs hz
  rw [zb_wz] at h
  exact h
theorem validRZ_m (z : Int) (hz : z.natAbs < B64 ^ 4) : Meets Tryz.prog 45 [wz z] [] (.r (.v (.bool true))) [] := by
  have h := validR_m (decide (z < 0)) z.natAbs hz
  have e : vW (decide (z < 0)) z.natAbs = true := by
    unfold vW
    by_cases h : z < 0
    · rw [decide_eq_true h, decide_eq_true (by omega : z.natAbs ≠ 0)]; rfl
    · rw [decide_eq_false h]; rfl
  rw [e] at h
  exact h
theorem wideZ_m (b : Bool) (n : Nat) (hn : n < B64 ^ 4) : Meets Tryz.prog 79 [.r (.v (.bool b)), .r (.sl 1 (wns (tw n)))] [] (.tu [wz (zb b n), .r (.v (.bool true))]) [] := by
  rw [wz_zb]; exact wide_m b n hn
theorem rOf_m (v : Int) (hv : I64 v) : Meets Tryz.prog 21 [.r (.v (.int .i64 v))] [] (wz v) [] := by
  have hv2 : -9223372036854775808 ≤ v ∧ v < 9223372036854775808 := hv
  rcases int_sign v with ⟨n, rfl⟩ | ⟨n, hn, rfl⟩
  · rw [wz_nat]
    have h0 : IntKind.u64.wrap (n : Int) = ((n % B64 : Nat) : Int) := by rw [IntKind.wrap_u64]; unfold B64; omega
    have h1 : n / B64 = 0 := by unfold B64; omega
    have h2 : wd false n = .ag [.r (.v (.bool false)), .r (.v (.int .u64 ((n % B64 : Nat) : Int))), .r (.v (.int .u64 0)), .r (.v (.int .u64 0)), .r (.v (.int .u64 0))] := by
      unfold wd; rw [h1]; rfl
    refine fn_of Tryz.func21 rfl (Nat.le_of_ble_eq_true rfl) rfl rfl ?_
    (repeat' (first | refine r_4eabd4 ?_ | (refine r_48b933 (fun hb => ?_) (fun hb => ?_) <;> (try (exfalso; omega))) | (refine awp_cond rfl (fun hb => ?_) (fun hb => ?_) <;> (try simp only [Bool.not_eq_true', Bool.not_eq_false', decide_eq_true_eq, decide_eq_false_iff_not] at hb) <;> (try (exfalso; omega)))))
    all_goals (first | (exfalso; omega) | (rw [h2]; exact ret1c [] (.ag _ _ _ (Rt.agR [.v (.bool false), .v (.int .u64 ((n % B64 : Nat) : Int)), .v (.int .u64 0), .v (.int .u64 0), .v (.int .u64 0)])) rfl rfl rfl rfl (post_none rfl) rfl))
  · rw [wz_neg n hn]
    have h0 : IntKind.u64.wrap (-(n : Int)) = 18446744073709551616 - (n : Int) := by rw [IntKind.wrap_u64]; omega
    have hneg : IntKind.u64.wrap (0 - (18446744073709551616 - (n : Int))) = ((n % B64 : Nat) : Int) := by rw [IntKind.wrap_u64]; unfold B64; omega
    have h1 : n / B64 = 0 := by unfold B64; omega
    have h2 : wd true n = .ag [.r (.v (.bool true)), .r (.v (.int .u64 ((n % B64 : Nat) : Int))), .r (.v (.int .u64 0)), .r (.v (.int .u64 0)), .r (.v (.int .u64 0))] := by
      unfold wd; rw [h1]; rfl
    refine fn_of Tryz.func21 rfl (Nat.le_of_ble_eq_true rfl) rfl rfl ?_
    (repeat' (first | refine r_4eabd4 ?_ | (refine r_48b933 (fun hb => ?_) (fun hb => ?_) <;> (try (exfalso; omega))) | (refine awp_cond rfl (fun hb => ?_) (fun hb => ?_) <;> (try simp only [Bool.not_eq_true', Bool.not_eq_false', decide_eq_true_eq, decide_eq_false_iff_not] at hb) <;> (try (exfalso; omega)))))
    all_goals (first | (exfalso; omega) | (rw [h2]; exact ret1c [] (.ag _ _ _ (Rt.agR [.v (.bool true), .v (.int .u64 ((n % B64 : Nat) : Int)), .v (.int .u64 0), .v (.int .u64 0), .v (.int .u64 0)])) rfl rfl rfl rfl (post_none rfl) rfl))
theorem rOfU_m (n : Nat) (hn : n < B64) : Meets Tryz.prog 84 [.r (.v (.int .u64 (n : Int)))] [] (wz (n : Int)) [] := by
  rw [wz_nat]
  have h1 : n / B64 = 0 := by unfold B64 at *; omega
  have h0 : n % B64 = n := Nat.mod_eq_of_lt hn
  have h2 : wd false n = .ag [.r (.v (.bool false)), .r (.v (.int .u64 (n : Int))), .r (.v (.int .u64 0)), .r (.v (.int .u64 0)), .r (.v (.int .u64 0))] := by
    unfold wd; rw [h1, h0]; rfl
  rw [h2]
  refine fn_of Tryz.func84 rfl (Nat.le_of_ble_eq_true rfl) rfl rfl ?_
  (repeat' (first | refine r_4eabd4 ?_ | (refine r_48b933 (fun hb => ?_) (fun hb => ?_) <;> (try (exfalso; omega))) | (refine awp_cond rfl (fun hb => ?_) (fun hb => ?_) <;> (try simp only [Bool.not_eq_true', Bool.not_eq_false', decide_eq_true_eq, decide_eq_false_iff_not] at hb) <;> (try (exfalso; omega)))))
  all_goals exact ret1c [] (.ag _ _ _ (Rt.agR [.v (.bool false), .v (.int .u64 (n : Int)), .v (.int .u64 0), .v (.int .u64 0), .v (.int .u64 0)])) rfl rfl rfl rfl (post_none rfl) rfl
theorem rSign_m (z : Int) (hz : z.natAbs < B64 ^ 4) : Meets Tryz.prog 46 [wz z] [] (.r (.v (.int .i64 (sgZ z)))) [] := by
  rcases int_sign z with ⟨n, rfl⟩ | ⟨n, hn, rfl⟩
  · have cO := of_m false n (by simpa using hz)
    have h0 := tw_len0 (n := n)
    rw [wz_nat]
    have hT : (wns (tw n)).length = 0 → (0 : Int) = sgZ (n : Int) := fun h => by rw [h0.1 h]; rfl
    have hF : ¬ (wns (tw n)).length = 0 → (1 : Int) = sgZ (n : Int) := fun h => by have := fun g => h (h0.2 g); unfold sgZ; rw [if_neg (by omega), if_neg (by omega)]
    refine fn_of Tryz.func46 rfl (Nat.le_of_ble_eq_true rfl) rfl rfl ?_
    (repeat' (first | refine r_4eabd4 ?_ | (refine is_f 81 ?_; refine r_bb2b31 (cO) ?_) | (refine r_48b933 (fun hb => ?_) (fun hb => ?_) <;> (try (exfalso; omega))) | (refine awp_cond rfl (fun hb => ?_) (fun hb => ?_) <;> (try simp only [Bool.not_eq_true', Bool.not_eq_false', decide_eq_true_eq, decide_eq_false_iff_not] at hb) <;> (try (exfalso; omega)))))
    all_goals (first | exact ret1 [] (.int (hT (by omega))) rfl rfl rfl | exact ret1 [] (.int (hF (by omega))) rfl rfl rfl)
  · have cO := of_m true n (by simpa using hz)
    have h0 := tw_len0 (n := n)
    have hl : ¬ (wns (tw n)).length = 0 := fun g => hn (h0.1 g)
    rw [wz_neg n hn]
    have hT : (-1 : Int) = sgZ (-(n : Int)) := by unfold sgZ; rw [if_pos (by omega)]
    refine fn_of Tryz.func46 rfl (Nat.le_of_ble_eq_true rfl) rfl rfl ?_
    (repeat' (first | refine r_4eabd4 ?_ | (refine is_f 81 ?_; refine r_bb2b31 (cO) ?_) | (refine r_48b933 (fun hb => ?_) (fun hb => ?_) <;> (try (exfalso; omega))) | (refine awp_cond rfl (fun hb => ?_) (fun hb => ?_) <;> (try simp only [Bool.not_eq_true', Bool.not_eq_false', decide_eq_true_eq, decide_eq_false_iff_not] at hb) <;> (try (exfalso; omega)))))
    all_goals (first | (exfalso; omega) | exact ret1 [] (.int hT) rfl rfl rfl)
theorem rNeg_m (z : Int) (hz : z.natAbs < B64 ^ 4) : Meets Tryz.prog 50 [wz z] [] (wz (-z)) [] := by
  rcases int_sign z with ⟨n, rfl⟩ | ⟨n, hn, rfl⟩
  · have cO := of_m false n (by simpa using hz)
    have cS := wideZ_m true n (by simpa using hz)
    rw [show zb true n = -(n : Int) from rfl] at cS
    rw [wz_nat]
    refine fn_of Tryz.func50 rfl (Nat.le_of_ble_eq_true rfl) rfl rfl ?_
    (repeat' (first | refine r_4eabd4 ?_ | (refine is_f 81 ?_; refine r_bb2b31 (cO) ?_) | (refine is_f 79 ?_; refine r_bb2b31 (cS) ?_) | (refine r_48b933 (fun hb => ?_) (fun hb => ?_) <;> (try (exfalso; omega))) | (refine awp_cond rfl (fun hb => ?_) (fun hb => ?_) <;> (try simp only [Bool.not_eq_true', Bool.not_eq_false', decide_eq_true_eq, decide_eq_false_iff_not] at hb) <;> (try (exfalso; omega)))))
    all_goals exact ret1c [] (Rt.wz _) rfl rfl rfl rfl (post_none rfl) rfl
  · have cO := of_m true n (by simpa using hz)
    have cS := wideZ_m false n (by simpa using hz)
    rw [show zb false n = (n : Int) from rfl] at cS
    rw [wz_neg n hn, Int.neg_neg]
    refine fn_of Tryz.func50 rfl (Nat.le_of_ble_eq_true rfl) rfl rfl ?_
    (repeat' (first | refine r_4eabd4 ?_ | (refine is_f 81 ?_; refine r_bb2b31 (cO) ?_) | (refine is_f 79 ?_; refine r_bb2b31 (cS) ?_) | (refine r_48b933 (fun hb => ?_) (fun hb => ?_) <;> (try (exfalso; omega))) | (refine awp_cond rfl (fun hb => ?_) (fun hb => ?_) <;> (try simp only [Bool.not_eq_true', Bool.not_eq_false', decide_eq_true_eq, decide_eq_false_iff_not] at hb) <;> (try (exfalso; omega)))))
    all_goals exact ret1c [] (Rt.wz _) rfl rfl rfl rfl (post_none rfl) rfl
end Go.Proofs.YtibedaeefnjjlaaGreat
