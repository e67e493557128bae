/- The reference's product of lists of words. Conditions: lengths. --ext6 -/
import Derived.Test.YtbndknhljkpijaaDoorWd4
namespace Go.Proofs.YtbndknhljkpijaaDoor
open Go.RowKit Go.Ab Go.Wd
set_option maxRecDepth 100000
set_option linter.unusedVariables false
set_option linter.unusedSimpArgs false

/-- What a round computes, as the programs compute it: the product's halves, two sums with carries. -/
theorem round_eq {p s c : Nat} (hp : p ≤ (B64 - 1) * (B64 - 1)) (hs : s < B64) (hc : c < B64) :
    ((p % B64 + s) % B64 + c) % B64 = (p + s + c) % B64 ∧ p / B64 + (p % B64 + s) / B64 + ((p % B64 + s) % B64 + c) / B64 = (p + s + c) / B64 ∧ p / B64 + (p % B64 + s) / B64 < B64 ∧ (p + s + c) / B64 < B64 := by
  unfold B64 at *
  omega
theorem word_mul_le {x y : Nat} (hx : x < B64) (hy : y < B64) : x * y ≤ (B64 - 1) * (B64 - 1) := Nat.mul_le_mul (by omega) (by omega)
def muO (a b : List Nat) (i : Nat) (l : List Nat) : St := ⟨[(0, .r (.sl 1 (wns a))), (1, .r (.sl 1 (wns b))), (5, .ow 0), (6, .r (.v (.int .i64 (i : Int))))], [(0, some (.row 28 1 (wns l)))], 1⟩
def muI (a b : List Nat) (i : Nat) (k c : Nat) (l : List Nat) : St := ⟨[(0, .r (.sl 1 (wns a))), (1, .r (.sl 1 (wns b))), (5, .ow 0), (6, .r (.v (.int .i64 (i : Int)))), (7, .r (.v (.int .u64 (c : Int)))), (8, .r (.v (.int .i64 (k : Int))))], [(0, some (.row 28 1 (wns l)))], 1⟩
theorem nat_addI (a b : Nat) (h : a + b < 9223372036854775808) : IntKind.i64.wrap ((a : Int) + (b : Int)) = ((a + b : Nat) : Int) := by rw [IntKind.wrap_i64]; omega
theorem nat_incI (a : Nat) (h : a + 1 < 9223372036854775808) : IntKind.i64.wrap ((a : Int) + 1) = ((a + 1 : Nat) : Int) := by rw [IntKind.wrap_i64]; omega
theorem refMulL_m (a b : List Nat) (hwa : Wds a) (hwb : Wds b) (hla : a.length ≤ 1000) (hlb : b.length ≤ 1000) : Meets Tryd.prog 26 [.r (.sl 1 (wns a)), .r (.sl 1 (wns b))] [] (.r (.sl 1 (wns (tw (val a * val b))))) [] := by
  obtain ⟨ml1, ml2, ml3⟩ := mul_law a b (a.length + b.length + 1) hwa hwb (by omega)
  have l1 := wns_len a
  have l2 := wns_len b
  have s1 := nat_addI a.length b.length (by omega)
  have s2 := nat_incI (a.length + b.length) (by omega)
  rw [← l1, ← l2] at s1
  rw [← l1, ← l2] at s2
  have hz : List.replicate ((wns a).length + (wns b).length + 1) (List.map RV.v [Value.int IntKind.u64 0]) = wns (List.replicate (a.length + b.length + 1) 0) := by
    rw [l1, l2]; unfold wns; rw [List.map_replicate]; rfl
  obtain ⟨R, hR⟩ : ∃ R, R = mOut a b a.length 0 (List.replicate (a.length + b.length + 1) 0) := ⟨_, rfl⟩
  rw [← hR] at ml1 ml2 ml3
  have hTR : trim R = tw (val a * val b) := by rw [trim_tw R ml1, ml3]
  rw [← hTR]
  refine Meets.freeze (T := 28) ?_
  refine fn_of Tryd.func26 rfl (Nat.le_of_ble_eq_true rfl) rfl rfl ?_
  (repeat' (first | refine r_4eabd4 ?_ | (refine r_48b933 (fun hb => ?_) (fun hb => ?_) <;> (try (exfalso; omega))) | (refine awp_cond rfl (fun hb => ?_) (fun hb => ?_) <;> (try simp only [Bool.not_eq_true', Bool.not_eq_false', decide_eq_true_eq, decide_eq_false_iff_not] at hb) <;> (try (exfalso; omega)))))
  refine awp_loop' (fun x : Nat × List Nat => muO a b x.1 x.2) (fun x => x.1 ≤ a.length ∧ x.2.length = a.length + b.length + 1 ∧ Wds x.2 ∧ mOut a b (a.length - x.1) x.1 x.2 = R) (fun x => a.length - x.1) (0, List.replicate (a.length + b.length + 1) 0) ⟨Nat.zero_le _, by simp, fun x hx => by rw [List.eq_of_mem_replicate hx]; decide, hR.symm⟩ (by (refine Le.mk [] [] q_5ec36 q_43730 q_16bb5 q_509a2)) fun x hx => ?_
  obtain ⟨i, l⟩ := x
  obtain ⟨hx1, hx2, hx3, hx4⟩ := hx
  dsimp only at hx1 hx2 hx3 hx4
  change awp _ _ _ _ _ (muO a b i l)
  rcases Nat.lt_or_ge i a.length with hi | hi
  · have hx0 := hwa.get i
    have ga := wns_get (l := a) hi
    obtain ⟨j, hj⟩ : ∃ j, a.length - i = j + 1 := ⟨a.length - i - 1, by omega⟩
    have hj2 : j = a.length - (i + 1) := by omega
    rw [hj, mOut] at hx4
    subst hj2
    generalize a.getD i 0 = x at *
    (repeat' (first | refine r_4eabd4 ?_ | (refine r_48b933 (fun hb => ?_) (fun hb => ?_) <;> (try (exfalso; omega))) | (refine awp_cond rfl (fun hb => ?_) (fun hb => ?_) <;> (try simp only [Bool.not_eq_true', Bool.not_eq_false', decide_eq_true_eq, decide_eq_false_iff_not] at hb) <;> (try (exfalso; omega)))))
    refine awp_loop' (fun y : Nat × Nat × List Nat => muI a b i y.1 y.2.1 y.2.2) (fun y => y.1 ≤ b.length ∧ y.2.2.length = a.length + b.length + 1 ∧ Wds y.2.2 ∧ y.2.1 < B64 ∧ mIn x b i (b.length - y.1) y.1 y.2.1 y.2.2 = mIn x b i b.length 0 0 l) (fun y => b.length - y.1) (0, 0, l) ⟨Nat.zero_le _, hx2, hx3, by show 0 < B64; decide, rfl⟩ (by (refine Le.mk [] [] q_5ec36 q_43730 q_16bb5 q_509a2)) fun y hy => ?_
    obtain ⟨k, c, m⟩ := y
    obtain ⟨hy1, hy2, hy3, hy4, hy5⟩ := hy
    dsimp only at hy1 hy2 hy3 hy4 hy5
    change awp _ _ _ _ _ (muI a b i k c m)
    rcases Nat.lt_or_ge k b.length with hk | hk
    · have hy0 := hwb.get k
      have gb := wns_get (l := b) hk
      have gm := wns_get (l := m) (i := i + k) (by omega)
      have hm0 := hy3.get (i + k)
      obtain ⟨q, hq⟩ : ∃ q, b.length - k = q + 1 := ⟨b.length - k - 1, by omega⟩
      have hq2 : q = b.length - (k + 1) := by omega
      rw [hq, mIn] at hy5
      subst hq2
      have sik := nat_addI i k (by omega)
      have cM := mul64_m x (b.getD k 0) hx0 hy0
      generalize b.getD k 0 = y at *
      generalize m.getD (i + k) 0 = s at *
      obtain ⟨r1, r2, r3, r4⟩ := round_eq (word_mul_le hx0 hy0) hm0 hy4
      have a1 := u64_addN (x * y / B64) ((x * y % B64 + s) / B64) r3
      have a2 := u64_addN (x * y / B64 + (x * y % B64 + s) / B64) (((x * y % B64 + s) % B64 + c) / B64) (by rw [r2]; exact r4)
      rw [r2] at a2
      have hE : (wns m).set (i + k) [.v (.int .u64 ((((x * y % B64 + s) % B64 + c) % B64 : Nat) : Int))] = wns (m.set (i + k) ((x * y + s + c) % B64)) := by rw [r1, wns_set]
      have hr5 : (x * y + s + c) % B64 < B64 := by unfold B64; omega
      clear r1 r2
      (repeat' (first | refine r_4eabd4 ?_ | (refine is_f 42 ?_; refine r_bb2b31 (cM) ?_) | ((refine is_f 43 ?_; refine w_read rfl q_85eb5 (p_add64z rfl rfl rfl) ?_); try dsimp only [AV.unfr, AV.unfrs, frsL, pairs, rdOf, @List.length_cons Blk, @List.length_nil Blk, @List.nil_append (Nat × Option Blk), @List.cons_append (Nat × Option Blk), @List.nil_append Blk, @List.cons_append Blk, Nat.add_zero, Nat.zero_add, Nat.reduceAdd]) | (refine r_48b933 (fun hb => ?_) (fun hb => ?_) <;> (try (exfalso; omega))) | (refine awp_cond rfl (fun hb => ?_) (fun hb => ?_) <;> (try simp only [Bool.not_eq_true', Bool.not_eq_false', decide_eq_true_eq, decide_eq_false_iff_not] at hb) <;> (try (exfalso; omega)))))
      all_goals exact ⟨(k + 1, (x * y + s + c) / B64, m.set (i + k) ((x * y + s + c) % B64)), ⟨hk, by rw [List.length_set]; exact hy2, hy3.set _ hr5, r4, hy5⟩, by show Le _ _ (muI a b i (k + 1) ((x * y + s + c) / B64) (m.set (i + k) ((x * y + s + c) % B64))); (refine Le.mk [] [] q_5ec36 q_43730 q_16bb5 q_509a2), by show b.length - (k + 1) < b.length - k; omega⟩
    · have hke : b.length - k = 0 := by omega
      have hkk : k = b.length := by omega
      rw [hke, mIn] at hy5
      rw [← hy5] at hx4
      dsimp only at hx4
      have sib := nat_addI i b.length (by omega)
      rw [← l2] at sib
      have gm := wns_get (l := m) (i := i + (wns b).length) (by omega)
      have hE : (wns m).set (i + (wns b).length) [.v (.int .u64 (c : Int))] = wns (m.set (i + b.length) c) := by rw [wns_set, l2]
      (repeat' (first | refine r_4eabd4 ?_ | (refine r_48b933 (fun hb => ?_) (fun hb => ?_) <;> (try (exfalso; omega))) | (refine awp_cond rfl (fun hb => ?_) (fun hb => ?_) <;> (try simp only [Bool.not_eq_true', Bool.not_eq_false', decide_eq_true_eq, decide_eq_false_iff_not] at hb) <;> (try (exfalso; omega)))))
      all_goals exact ⟨(i + 1, m.set (i + b.length) c), ⟨hi, by rw [List.length_set]; exact hy2, hy3.set _ hy4, hx4⟩, by show Le _ _ (muO a b (i + 1) (m.set (i + b.length) c)); (refine Le.mk [] [] q_5ec36 q_43730 q_16bb5 q_509a2), by show a.length - (i + 1) < a.length - i; omega⟩
  · have hie : a.length - i = 0 := by omega
    rw [hie, mOut] at hx4
    subst hx4
    (repeat' (first | refine r_4eabd4 ?_ | (refine is_f 41 ?_; refine r_181b4d (trim_o l (by omega)) ?_) | (refine r_48b933 (fun hb => ?_) (fun hb => ?_) <;> (try (exfalso; omega))) | (refine awp_cond rfl (fun hb => ?_) (fun hb => ?_) <;> (try simp only [Bool.not_eq_true', Bool.not_eq_false', decide_eq_true_eq, decide_eq_false_iff_not] at hb) <;> (try (exfalso; omega)))))
    all_goals (first | exact ret1 [] (.fr 1 _ _ _ rfl) rfl rfl rfl | exact ret1 [] (.fr 2 _ _ _ rfl) rfl rfl rfl)
end Go.Proofs.YtbndknhljkpijaaDoor
