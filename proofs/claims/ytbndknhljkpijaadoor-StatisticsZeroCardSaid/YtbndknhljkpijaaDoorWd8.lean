/- The program's words: add, mul. Conditions: ranges. --ext6 -/
import Derived.Test.YtbndknhljkpijaaDoorWd7
namespace Go.Proofs.YtbndknhljkpijaaDoor
open Go.RowKit Go.Ab Go.Wd
set_option maxRecDepth 100000
set_option linter.unusedVariables false
set_option linter.unusedSimpArgs false

instance eqar_w4 : EqAr Tryd.prog 29 := ⟨by kernel_rfl⟩
/-- Four words as an array. -/
def w4 (n : Nat) : AV := .ag [.r (.v (.int .u64 ((n % B64 : Nat) : Int))), .r (.v (.int .u64 ((n / B64 % B64 : Nat) : Int))), .r (.v (.int .u64 ((n / B64 / B64 % B64 : Nat) : Int))), .r (.v (.int .u64 ((n / B64 / B64 / B64 % B64 : Nat) : Int)))]
theorem Rt.w4 {H : Nat → Option Blk} {L : Nat} {G : List Nat} (n : Nat) : Rt H L G (Go.Proofs.YtbndknhljkpijaaDoor.w4 n) (Go.Proofs.YtbndknhljkpijaaDoor.w4 n) [] := .ag _ _ _ (Rt.agR [.v (.int .u64 ((n % B64 : Nat) : Int)), .v (.int .u64 ((n / B64 % B64 : Nat) : Int)), .v (.int .u64 ((n / B64 / B64 % B64 : Nat) : Int)), .v (.int .u64 ((n / B64 / B64 / B64 % B64 : Nat) : Int))])
/-- A list of four words is the words of its number. -/
theorem four (l : List Nat) (h : l.length = 4) (hw : Wds l) : l = ws (val l) 4 := by
  have := ws_val l hw
  rw [h] at this
  exact this.symm
/-- The sum: j rounds to go, i done. -/
def adG (a b : List Nat) : Nat → Nat → Nat → List Nat → Nat × List Nat
  | 0, _, c, l => (c, l)
  | j + 1, i, c, l => adG a b j (i + 1) ((a.getD i 0 + b.getD i 0 + c) / B64) (l.set i ((a.getD i 0 + b.getD i 0 + c) % B64))
theorem val_take_succ (a : List Nat) (i : Nat) (h : i < a.length) : val (a.take (i + 1)) = val (a.take i) + B64 ^ i * a.getD i 0 := by
  rw [List.take_succ_eq_append_getElem h, val_append, List.length_take, Nat.min_eq_left (Nat.le_of_lt h)]
  simp [val, h]
theorem adG_law (a b : List Nat) (ha : Wds a) (hb : Wds b) (hl : a.length = b.length) : ∀ (j i c : Nat) (l : List Nat), j + i = a.length → l.length = a.length → Wds l → c ≤ 1 → (∀ p, i ≤ p → l.getD p 0 = 0) → val l + B64 ^ i * c = val (a.take i) + val (b.take i) →
    Wds (adG a b j i c l).2 ∧ (adG a b j i c l).2.length = a.length ∧ (adG a b j i c l).1 ≤ 1 ∧ val (adG a b j i c l).2 + B64 ^ a.length * (adG a b j i c l).1 = val a + val b
  | 0, i, c, l, hj, hll, hw, hc, hz, hv => by
    have : i = a.length := by omega
    subst this
    rw [List.take_length, hl, List.take_length, ← hl] at hv
    exact ⟨hw, hll, hc, hv⟩
  | j + 1, i, c, l, hj, hll, hw, hc, hz, hv => by
    have h1 := ha.get i
    have h2 := hb.get i
    have hvs := val_set l i ((a.getD i 0 + b.getD i 0 + c) % B64) (by omega)
    rw [hz i (Nat.le_refl _), Nat.mul_zero, Nat.add_zero] at hvs
    have e1 := val_take_succ a i (by omega)
    have e2 := val_take_succ b i (by omega)
    rw [adG]
    refine adG_law a b ha hb hl j (i + 1) _ _ (by omega) (by rw [List.length_set]; exact hll) (hw.set i (by unfold B64; omega)) (by unfold B64 at *; omega) (fun p hp => ?_) ?_
    · have : i ≠ p := by omega
      have e := hz p (by omega)
      simpa [List.getD_eq_getElem?_getD, List.getElem?_set, this] using e
    · rw [hvs, e1, e2, Nat.pow_succ]
      have hm := Nat.mod_add_div (a.getD i 0 + b.getD i 0 + c) B64
      generalize (a.getD i 0 + b.getD i 0 + c) % B64 = r at *
      generalize (a.getD i 0 + b.getD i 0 + c) / B64 = q at *
      generalize a.getD i 0 = x at *
      generalize b.getD i 0 = y at *
      generalize B64 ^ i = M at *
      have e3 : M * (r + B64 * q) = M * (x + y + c) := by rw [hm]
      rw [Nat.mul_add, ← Nat.mul_assoc, Nat.mul_add, Nat.mul_add] at e3
      omega
def adS (a b : List Nat) (i c : Nat) (l : List Nat) : St := ⟨[(2, .pt 0 0), (3, .pt 1 0), (4, .pt 2 0), (5, .r (.v (.int .u64 (c : Int)))), (7, .r (.v (.int .i64 (i : Int))))], [(0, some (.var 29 (wv a))), (1, some (.var 29 (wv b))), (2, some (.var 29 (wv l)))], 3⟩
theorem nums_ad (a b : List Nat) (i c : Nat) (l : List Nat) : numsOk ⟨0, moved []⟩ (adS a b i c l) (rho []) [] = true := by
  have hid : ∀ T l, (Blk.var T (wv l)).ids = [] := fun T l => by rw [Blk.ids, idss_wv]
  unfold numsOk adS; simp only [List.all_cons, List.all_nil, hid]; rfl
theorem add_m (m n : Nat) (hm : m < B64 ^ 4) (hn : n < B64 ^ 4) (hmn : m + n < B64 ^ 4) : Meets Tryd.prog 48 [w4 m, w4 n] [] (.tu [w4 (m + n), .r (.v (.int .u64 0))]) [] := by
  have hla := ws_len 4 m
  have hlb := ws_len 4 n
  have hwa := ws_wds 4 m
  have hwb := ws_wds 4 n
  have hva := val_ws 4 m hm
  have hvb := val_ws 4 n hn
  refine fn_of Tryd.func48 rfl (Nat.le_of_ble_eq_true rfl) rfl rfl ?_
  (repeat' (first | refine r_4eabd4 ?_ | (refine r_48b933 (fun hb => ?_) (fun hb => ?_) <;> (try (exfalso; omega))) | (refine awp_cond rfl (fun hb => ?_) (fun hb => ?_) <;> (try simp only [Bool.not_eq_true', Bool.not_eq_false', decide_eq_true_eq, decide_eq_false_iff_not] at hb) <;> (try (exfalso; omega)))))
  obtain ⟨g1, g2, g3, g4⟩ := adG_law (ws m 4) (ws n 4) hwa hwb (by rw [hla, hlb]) 4 0 0 [0, 0, 0, 0] (by rw [hla]) (by rw [hla]; rfl) (fun a ha => by simp at ha; subst ha; decide) (by omega) (fun p _ => by rcases p with _ | _ | _ | _ | p <;> rfl) (by simp [val])
  have hfin : adG (ws m 4) (ws n 4) 4 0 0 [0, 0, 0, 0] = (0, ws (m + n) 4) := by
    generalize adG (ws m 4) (ws n 4) 4 0 0 [0, 0, 0, 0] = R at *
    obtain ⟨c, l⟩ := R
    dsimp only at *
    rw [hva, hvb, hla] at g4
    have hc : c = 0 := by
      rcases Nat.eq_zero_or_pos c with h | h
      · exact h
      · have : B64 ^ 4 * 1 ≤ B64 ^ 4 * c := Nat.mul_le_mul (Nat.le_refl _) h
        omega
    subst hc
    have e := four l (by rw [g2, hla]) g1
    rw [Nat.mul_zero, Nat.add_zero] at g4
    rw [g4] at e
    rw [e]
  refine awp_loop' (fun x : Nat × Nat × List Nat => adS (ws m 4) (ws n 4) x.1 x.2.1 x.2.2) (fun x => x.1 ≤ 4 ∧ x.2.2.length = 4 ∧ x.2.1 ≤ 1 ∧ adG (ws m 4) (ws n 4) (4 - x.1) x.1 x.2.1 x.2.2 = (0, ws (m + n) 4)) (fun x => 4 - x.1) (0, 0, [0, 0, 0, 0]) ⟨by omega, rfl, by show 0 ≤ 1; omega, hfin⟩ (by (refine Le.mk [] [] q_5ec36 q_43730 q_16bb5 q_509a2)) fun x hx => ?_
  obtain ⟨i, c, l⟩ := x
  obtain ⟨hx1, hx2, hx3, hx4⟩ := hx
  dsimp only at hx1 hx2 hx3 hx4
  change awp _ _ _ _ _ (adS (ws m 4) (ws n 4) i c l)
  rcases Nat.lt_or_ge i 4 with hi | hi
  · obtain ⟨j, hj⟩ : ∃ j, 4 - i = j + 1 := ⟨4 - i - 1, by omega⟩
    have hj2 : j = 4 - (i + 1) := by omega
    rw [hj, adG] at hx4
    subst hj2
    have ga : (wv (ws m 4))[0 + i * 1]? = some (.r (.v (.int .u64 ((ws m 4).getD i 0 : Nat)))) := by rw [show 0 + i * 1 = i by omega]; exact wv_get (by omega)
    have gb : (wv (ws n 4))[0 + i * 1]? = some (.r (.v (.int .u64 ((ws n 4).getD i 0 : Nat)))) := by rw [show 0 + i * 1 = i by omega]; exact wv_get (by omega)
    have hxa := hwa.get i
    have hxb := hwb.get i
    generalize ws m 4 = a at *
    generalize ws n 4 = b at *
    have hc1 : (a.getD i 0 + b.getD i 0 + c) / B64 ≤ 1 := by unfold B64 at *; omega
    generalize a.getD i 0 = x at *
    generalize b.getD i 0 = y at *
    have key : ∀ i0, i = i0 → IntKind.i64.wrap ((i0 : Int) + 1) = ((i0 + 1 : Nat) : Int) := fun i0 h => nat_incI i0 (by omega)
    obtain ⟨l0, l1, l2, l3, rfl⟩ : ∃ l0 l1 l2 l3, l = [l0, l1, l2, l3] := by
      match l, hx2 with
      | [l0, l1, l2, l3], _ => exact ⟨l0, l1, l2, l3, rfl⟩
    have hcase : i = 0 ∨ i = 1 ∨ i = 2 ∨ i = 3 := by omega
    rcases hcase with rfl | rfl | rfl | rfl
    · have hnum := nums_ad a b (0 + 1) ((x + y + c) / B64) ([l0, l1, l2, l3].set 0 ((x + y + c) % B64))
      (repeat' (first | refine r_4eabd4 ?_ | ((refine is_f 43 ?_; refine w_read rfl q_85eb5 (p_add64 rfl rfl rfl hx3) ?_); try dsimp only [AV.unfr, AV.unfrs, frsL, pairs, rdOf, @List.length_cons Blk, @List.length_nil Blk, @List.nil_append (Nat × Option Blk), @List.cons_append (Nat × Option Blk), @List.nil_append Blk, @List.cons_append Blk, Nat.add_zero, Nat.zero_add, Nat.reduceAdd]) | (refine r_48b933 (fun hb => ?_) (fun hb => ?_) <;> (try (exfalso; omega))) | (refine awp_cond rfl (fun hb => ?_) (fun hb => ?_) <;> (try simp only [Bool.not_eq_true', Bool.not_eq_false', decide_eq_true_eq, decide_eq_false_iff_not] at hb) <;> (try (exfalso; omega)))))
      all_goals (first | (exfalso; omega) | exact ⟨(0 + 1, (x + y + c) / B64, [l0, l1, l2, l3].set 0 ((x + y + c) % B64)), ⟨by show 0 + 1 ≤ 4; omega, rfl, hc1, hx4⟩, by show Le _ _ (adS a b (0 + 1) ((x + y + c) / B64) ([l0, l1, l2, l3].set 0 ((x + y + c) % B64))); (refine Le.mk [] [] q_5ec36 q_43730 q_16bb5 q_509a2), by show 4 - (0 + 1) < 4 - 0; omega⟩)
    · have hnum := nums_ad a b (1 + 1) ((x + y + c) / B64) ([l0, l1, l2, l3].set 1 ((x + y + c) % B64))
      (repeat' (first | refine r_4eabd4 ?_ | ((refine is_f 43 ?_; refine w_read rfl q_85eb5 (p_add64 rfl rfl rfl hx3) ?_); try dsimp only [AV.unfr, AV.unfrs, frsL, pairs, rdOf, @List.length_cons Blk, @List.length_nil Blk, @List.nil_append (Nat × Option Blk), @List.cons_append (Nat × Option Blk), @List.nil_append Blk, @List.cons_append Blk, Nat.add_zero, Nat.zero_add, Nat.reduceAdd]) | (refine r_48b933 (fun hb => ?_) (fun hb => ?_) <;> (try (exfalso; omega))) | (refine awp_cond rfl (fun hb => ?_) (fun hb => ?_) <;> (try simp only [Bool.not_eq_true', Bool.not_eq_false', decide_eq_true_eq, decide_eq_false_iff_not] at hb) <;> (try (exfalso; omega)))))
      all_goals (first | (exfalso; omega) | exact ⟨(1 + 1, (x + y + c) / B64, [l0, l1, l2, l3].set 1 ((x + y + c) % B64)), ⟨by show 1 + 1 ≤ 4; omega, rfl, hc1, hx4⟩, by show Le _ _ (adS a b (1 + 1) ((x + y + c) / B64) ([l0, l1, l2, l3].set 1 ((x + y + c) % B64))); (refine Le.mk [] [] q_5ec36 q_43730 q_16bb5 q_509a2), by show 4 - (1 + 1) < 4 - 1; omega⟩)
    · have hnum := nums_ad a b (2 + 1) ((x + y + c) / B64) ([l0, l1, l2, l3].set 2 ((x + y + c) % B64))
      (repeat' (first | refine r_4eabd4 ?_ | ((refine is_f 43 ?_; refine w_read rfl q_85eb5 (p_add64 rfl rfl rfl hx3) ?_); try dsimp only [AV.unfr, AV.unfrs, frsL, pairs, rdOf, @List.length_cons Blk, @List.length_nil Blk, @List.nil_append (Nat × Option Blk), @List.cons_append (Nat × Option Blk), @List.nil_append Blk, @List.cons_append Blk, Nat.add_zero, Nat.zero_add, Nat.reduceAdd]) | (refine r_48b933 (fun hb => ?_) (fun hb => ?_) <;> (try (exfalso; omega))) | (refine awp_cond rfl (fun hb => ?_) (fun hb => ?_) <;> (try simp only [Bool.not_eq_true', Bool.not_eq_false', decide_eq_true_eq, decide_eq_false_iff_not] at hb) <;> (try (exfalso; omega)))))
      all_goals (first | (exfalso; omega) | exact ⟨(2 + 1, (x + y + c) / B64, [l0, l1, l2, l3].set 2 ((x + y + c) % B64)), ⟨by show 2 + 1 ≤ 4; omega, rfl, hc1, hx4⟩, by show Le _ _ (adS a b (2 + 1) ((x + y + c) / B64) ([l0, l1, l2, l3].set 2 ((x + y + c) % B64))); (refine Le.mk [] [] q_5ec36 q_43730 q_16bb5 q_509a2), by show 4 - (2 + 1) < 4 - 2; omega⟩)
    · have hnum := nums_ad a b (3 + 1) ((x + y + c) / B64) ([l0, l1, l2, l3].set 3 ((x + y + c) % B64))
      (repeat' (first | refine r_4eabd4 ?_ | ((refine is_f 43 ?_; refine w_read rfl q_85eb5 (p_add64 rfl rfl rfl hx3) ?_); try dsimp only [AV.unfr, AV.unfrs, frsL, pairs, rdOf, @List.length_cons Blk, @List.length_nil Blk, @List.nil_append (Nat × Option Blk), @List.cons_append (Nat × Option Blk), @List.nil_append Blk, @List.cons_append Blk, Nat.add_zero, Nat.zero_add, Nat.reduceAdd]) | (refine r_48b933 (fun hb => ?_) (fun hb => ?_) <;> (try (exfalso; omega))) | (refine awp_cond rfl (fun hb => ?_) (fun hb => ?_) <;> (try simp only [Bool.not_eq_true', Bool.not_eq_false', decide_eq_true_eq, decide_eq_false_iff_not] at hb) <;> (try (exfalso; omega)))))
      all_goals (first | (exfalso; omega) | exact ⟨(3 + 1, (x + y + c) / B64, [l0, l1, l2, l3].set 3 ((x + y + c) % B64)), ⟨by show 3 + 1 ≤ 4; omega, rfl, hc1, hx4⟩, by show Le _ _ (adS a b (3 + 1) ((x + y + c) / B64) ([l0, l1, l2, l3].set 3 ((x + y + c) % B64))); (refine Le.mk [] [] q_5ec36 q_43730 q_16bb5 q_509a2), by show 4 - (3 + 1) < 4 - 3; omega⟩)
  · have hie : 4 - i = 0 := by omega
    rw [hie, adG] at hx4
    injection hx4 with h1 h2
    subst h1 h2
    (repeat' (first | refine r_4eabd4 ?_ | (refine r_48b933 (fun hb => ?_) (fun hb => ?_) <;> (try (exfalso; omega))) | (refine awp_cond rfl (fun hb => ?_) (fun hb => ?_) <;> (try simp only [Bool.not_eq_true', Bool.not_eq_false', decide_eq_true_eq, decide_eq_false_iff_not] at hb) <;> (try (exfalso; omega)))))
    all_goals (first | (exfalso; omega) | exact ret2c [] (Rt.w4 (m + n)) (.int rfl) rfl rfl rfl rfl rfl (post_none rfl) rfl)
end Go.Proofs.YtbndknhljkpijaaDoor
