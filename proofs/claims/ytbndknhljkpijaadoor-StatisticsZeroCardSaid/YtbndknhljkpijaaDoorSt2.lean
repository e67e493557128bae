/- Chapter 33: Compare. Conditions: lengths, ranges. --ext6 -/
import Derived.Test.YtbndknhljkpijaaDoorSt1
namespace Go.Proofs.YtbndknhljkpijaaDoor
open Go.RowKit Go.Ab Go.Wd
set_option maxRecDepth 100000
set_option linter.unusedVariables false
set_option linter.unusedSimpArgs false

/-- The distance of the values at i. -/
def fD (a b : List (Int × Int)) (i : Nat) : Nat := (dst (a.getD i (0, 0)).2 (b.getD i (0, 0)).2).toNat
def sD (f : Nat → Nat) : Nat → Nat
  | 0 => 0
  | n + 1 => sD f n + f n
def mD (f : Nat → Nat) : Nat → Nat
  | 0 => 0
  | n + 1 => if mD f n < f n then f n else mD f n
theorem sD_le (f : Nat → Nat) (M : Nat) : ∀ n, (∀ i, i < n → f i ≤ M) → sD f n ≤ n * M
  | 0, _ => by simp [sD]
  | n + 1, h => by
    rw [sD, Nat.add_mul]
    have := sD_le f M n (fun i hi => h i (by omega))
    have := h n (by omega)
    omega
theorem mD_lt (f : Nat → Nat) (M : Nat) (hM : 0 < M) : ∀ n, (∀ i, i < n → f i < M) → mD f n < M
  | 0, _ => by simpa [mD] using hM
  | n + 1, h => by
    rw [mD]
    have := mD_lt f M hM n (fun i hi => h i (by omega))
    have := h n (by omega)
    split <;> omega
/-- A summary's cells. -/
def smR (c w s q : Nat) : List RV := [.v (.int .i64 (c : Int)), .v (.bool false), .v (.int .u64 ((w % B64 : Nat) : Int)), .v (.int .u64 ((w / B64 % B64 : Nat) : Int)), .v (.int .u64 ((w / B64 / B64 % B64 : Nat) : Int)), .v (.int .u64 ((w / B64 / B64 / B64 % B64 : Nat) : Int)),
  .v (.bool false), .v (.int .u64 ((s % B64 : Nat) : Int)), .v (.int .u64 ((s / B64 % B64 : Nat) : Int)), .v (.int .u64 ((s / B64 / B64 % B64 : Nat) : Int)), .v (.int .u64 ((s / B64 / B64 / B64 % B64 : Nat) : Int)),
  .v (.bool false), .v (.int .u64 ((q % B64 : Nat) : Int)), .v (.int .u64 ((q / B64 % B64 : Nat) : Int)), .v (.int .u64 ((q / B64 / B64 % B64 : Nat) : Int)), .v (.int .u64 ((q / B64 / B64 / B64 % B64 : Nat) : Int))]
def smA (c w s q : Nat) : AV := .ag ((smR c w s q).map .r)
theorem Rt.sm {H : Nat → Option Blk} {L : Nat} {G : List Nat} (c w s q : Nat) : Rt H L G (smA c w s q) (smA c w s q) [] := .ag _ _ _ (Rt.agR _)
def cmS (a b : List (Int × Int)) (i w s q : Nat) : St := ⟨[(0, .r (.sl 2 (smps a))), (1, .r (.sl 2 (smps b))), (4, .pt 0 0), (7, .pt 1 0), (8, .r (.v (.int .u64 (w : Int)))), (25, .r (.sl 2 (smps a))), (26, .r (.v (.int .i64 ((smps a).length : Int)))), (27, .r (.v (.int .i64 (i : Int))))], [(0, some (.var 33 ((smR 0 0 0 0).map .r))), (1, some (.var 33 ((smR (smps a).length 0 s q).map .r)))], 2⟩
theorem fD_lt {a b : List (Int × Int)} (ha : Smp a) (hb : Smp b) (i : Nat) (h1 : i < a.length) (h2 : i < b.length) : fD a b i < B64 := by
  have := dst_range (a.getD i (0, 0)).2 (b.getD i (0, 0)).2 (ha i h1).2 (hb i h2).2
  unfold fD B64; omega
theorem B64_big : B64 ^ 4 = 115792089237316195423570985008687907853269984665640564039457584007913129639936 := by decide
set_option maxHeartbeats 4000000 in
theorem compare33_m (a b : List (Int × Int)) (hsa : Smp a) (hsb : Smp b) (ha : a.length ≤ 100000) (hb0 : b.length ≤ 100000) (he : chkE a b = 0) : Meets Tryd.prog 7 [.r (.sl 2 (smps a)), .r (.sl 2 (smps b))] [] (.tu [smA a.length (mD (fD a b) a.length) (sD (fD a b) a.length) (sD (fun i => fD a b i * fD a b i) a.length), .r (.v (.int .i64 0))]) [] := by
  have cC := check33_m a b (by omega) (by omega)
  rw [he] at cC
  have hlen : a.length = b.length := by
    unfold chkE at he
    split at he
    · split at he
      · assumption
      · omega
    · rename_i h; exact absurd he h
  have hf : ∀ i, i < a.length → fD a b i < B64 := fun i hi => fD_lt hsa hsb i hi (by omega)
  have l1 := smps_len a
  refine fn_of Tryd.func7 rfl (Nat.le_of_ble_eq_true rfl) rfl rfl ?_
  (repeat' (first | refine r_4eabd4 ?_ | (refine is_f 18 ?_; refine r_bb2b31 (cC) ?_) | (refine r_48b933 (fun hb => ?_) (fun hb => ?_) <;> (try (exfalso; omega))) | (refine awp_cond rfl (fun hb => ?_) (fun hb => ?_) <;> (try simp only [Bool.not_eq_true', Bool.not_eq_false', decide_eq_true_eq, decide_eq_false_iff_not] at hb) <;> (try (exfalso; omega)))))
  all_goals (first | (exfalso; omega) | skip)
  refine awp_loop' (fun x : Nat × Nat × Nat × Nat => cmS a b x.1 x.2.1 x.2.2.1 x.2.2.2) (fun x => x.1 ≤ a.length ∧ x.2.1 = mD (fD a b) x.1 ∧ x.2.2.1 = sD (fD a b) x.1 ∧ x.2.2.2 = sD (fun i => fD a b i * fD a b i) x.1) (fun x => a.length - x.1) (0, 0, 0, 0) ⟨Nat.zero_le _, rfl, rfl, rfl⟩ (by (refine Le.mk [] [] q_5ec36 q_43730 q_16bb5 q_509a2)) fun x hx => ?_
  obtain ⟨i, w, s, q⟩ := x
  obtain ⟨hi1, hw, hs, hq⟩ := hx
  dsimp only at hi1 hw hs hq
  have bs := sD_le (fD a b) (B64 - 1) i (fun j hj => by have := hf j (by omega); omega)
  have bq := sD_le (fun i => fD a b i * fD a b i) ((B64 - 1) * (B64 - 1)) i (fun j hj => Nat.mul_le_mul (by have := hf j (by omega); omega) (by have := hf j (by omega); omega))
  have bw := mD_lt (fD a b) B64 (by decide) i (fun j hj => hf j (by omega))
  have bs2 : s ≤ 100000 * (B64 - 1) := hs ▸ Nat.le_trans bs (Nat.mul_le_mul_right _ (by omega))
  have bq2 : q ≤ 100000 * ((B64 - 1) * (B64 - 1)) := hq ▸ Nat.le_trans bq (Nat.mul_le_mul_right _ (by omega))
  rw [← hw] at bw
  clear bs bq
  have K1 : 100000 * (B64 - 1) + B64 < B64 ^ 4 := by decide
  have K2 : 100000 * ((B64 - 1) * (B64 - 1)) + (B64 - 1) * (B64 - 1) < B64 ^ 4 := by decide
  have K3 : B64 < B64 ^ 4 := by decide
  change awp _ _ _ _ _ (cmS a b i w s q)
  rcases Nat.lt_or_ge i a.length with hi | hi
  · have ga := smps_get (l := a) hi
    have gb := smps_get (l := b) (j := i) (by omega)
    have hd := hf i hi
    have hcd : (dst (a.getD i (0, 0)).2 (b.getD i (0, 0)).2) = ((fD a b i : Nat) : Int) := by
      have := dst_range (a.getD i (0, 0)).2 (b.getD i (0, 0)).2 (hsa i hi).2 (hsb i (by omega)).2
      unfold fD; omega
    have cD := dist_m (a.getD i (0, 0)).2 (b.getD i (0, 0)).2 (hsa i hi).2 (hsb i (by omega)).2
    rw [hcd] at cD
    have e0 : mD (fD a b) (i + 1) = if w < fD a b i then fD a b i else w := by rw [mD, ← hw]
    have e1 : sD (fD a b) (i + 1) = s + fD a b i := by rw [sD, ← hs]
    have e2 : sD (fun i => fD a b i * fD a b i) (i + 1) = q + fD a b i * fD a b i := by rw [sD, ← hq]
    generalize hDi : fD a b i = d at *
    have cO := wOfU_m d hd
    have hdd : d * d ≤ (B64 - 1) * (B64 - 1) := Nat.mul_le_mul (by omega) (by omega)
    have cM := wMul_m d d (by omega) (by omega) (by omega)
    have cP := plus_m s d (by omega) (by omega) (by omega)
    have cQ := plus_m q (d * d) (by omega) (by omega) (by omega)
    have hmx : (if ((d : Nat) : Int) > ((w : Nat) : Int) then ((d : Nat) : Int) else ((w : Nat) : Int)) = ((if w < d then d else w : Nat) : Int) := by
      split <;> split <;> omega
    have hn := nat_incI i (by omega)
    have hfin : (i + 1 ≤ a.length) ∧ (if w < d then d else w) = mD (fD a b) (i + 1) ∧ s + d = sD (fD a b) (i + 1) ∧ q + d * d = sD (fun i => fD a b i * fD a b i) (i + 1) := ⟨hi, e0.symm, e1.symm, e2.symm⟩
    clear bs2 bq2 bw hcd hf hd K1 K2 K3 hdd e0 e1 e2 hw hs hq hDi
    generalize (if w < d then d else w) = w' at *
    generalize s + d = s' at *
    generalize q + d * d = q' at *
    generalize d * d = dd at *
    (repeat' (first | refine r_4eabd4 ?_ | (refine is_f 19 ?_; refine r_bb2b31 (cD) ?_) | (refine is_f 20 ?_; refine r_bb2b31 (cO) ?_) | (refine is_f 21 ?_; refine r_bb2b31 (cM) ?_) | (refine is_f 22 ?_; refine r_bb2b31 (cP) ?_) | (refine is_f 22 ?_; refine r_bb2b31 (cQ) ?_) | (refine r_48b933 (fun hb => ?_) (fun hb => ?_) <;> (try (exfalso; omega))) | (refine awp_cond rfl (fun hb => ?_) (fun hb => ?_) <;> (try simp only [Bool.not_eq_true', Bool.not_eq_false', decide_eq_true_eq, decide_eq_false_iff_not] at hb) <;> (try (exfalso; omega)))))
    all_goals (first | (exfalso; omega) | exact ⟨(i + 1, w', s', q'), hfin, by show Le _ _ (cmS a b (i + 1) w' s' q'); (refine Le.mk [] [] q_5ec36 q_43730 q_16bb5 q_509a2), by show a.length - (i + 1) < a.length - i; omega⟩)
  · have hie : i = a.length := by omega
    subst hie
    have cO := wOfU_m w bw
    have e : smA a.length (mD (fD a b) a.length) (sD (fD a b) a.length) (sD (fun i => fD a b i * fD a b i) a.length) = smA (smps a).length w s q := by rw [l1, hw, hs, hq]
    rw [e]
    clear bs2 bq2 bw K1 K2 K3 hw hs hq e
    (repeat' (first | refine r_4eabd4 ?_ | (refine is_f 20 ?_; refine r_bb2b31 (cO) ?_) | (refine r_48b933 (fun hb => ?_) (fun hb => ?_) <;> (try (exfalso; omega))) | (refine awp_cond rfl (fun hb => ?_) (fun hb => ?_) <;> (try simp only [Bool.not_eq_true', Bool.not_eq_false', decide_eq_true_eq, decide_eq_false_iff_not] at hb) <;> (try (exfalso; omega)))))
    all_goals (first | (exfalso; omega) | exact ret2c [] (Rt.sm (smps a).length w s q) (.int rfl) rfl rfl rfl rfl rfl (post_none rfl) rfl)
end Go.Proofs.YtbndknhljkpijaaDoor
