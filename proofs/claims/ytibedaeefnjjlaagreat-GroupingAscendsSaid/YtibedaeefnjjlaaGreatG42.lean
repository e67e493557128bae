/- Texts of the second layer in one: Mq Wr4 Wr8 Dv0. -/
import Derived.Test.YtibedaeefnjjlaaGreatG19
import Derived.Test.YtibedaeefnjjlaaGreatG36
import Derived.Test.YtibedaeefnjjlaaGreatG37
set_option maxRecDepth 100000
set_option linter.unusedVariables false
set_option linter.unusedSimpArgs false
namespace Go.Proofs.YtibedaeefnjjlaaGreat
def mkQ (m : Int) (d : Nat) : Int × Int := if m < 0 then (-((m.natAbs / Nat.gcd m.natAbs d : Nat) : Int), ((d / Nat.gcd m.natAbs d : Nat) : Int)) else (((m.natAbs / Nat.gcd m.natAbs d : Nat) : Int), ((d / Nat.gcd m.natAbs d : Nat) : Int))
theorem mkQ_mul (m : Int) (d : Nat) (hd : 0 < d) : (mkQ m d).1 * (d : Int) = m * (mkQ m d).2 ∧ 0 < (mkQ m d).2 ∧ (mkQ m d).1.natAbs ≤ m.natAbs ∧ (mkQ m d).2.natAbs ≤ d ∧ Nat.gcd (mkQ m d).1.natAbs (mkQ m d).2.natAbs = 1 := by
 have hg : 0 < Nat.gcd m.natAbs d := Nat.gcd_pos_of_pos_right _ hd
 obtain ⟨a, ha⟩ := Nat.gcd_dvd_left m.natAbs d
 obtain ⟨b, hb⟩ := Nat.gcd_dvd_right m.natAbs d
 have ea : m.natAbs / Nat.gcd m.natAbs d = a := by
  generalize Nat.gcd m.natAbs d = g at *
  rw [ha]; exact Nat.mul_div_cancel_left _ hg
 have eb : d / Nat.gcd m.natAbs d = b := by
  generalize Nat.gcd m.natAbs d = g at *
  rw [hb]; exact Nat.mul_div_cancel_left _ hg
 have hco : Nat.gcd a b = 1 := by
  clear ea eb
  generalize hgd : Nat.gcd m.natAbs d = g at *
  rw [ha, hb, Nat.gcd_mul_left] at hgd
  exact Nat.eq_of_mul_eq_mul_left hg (by rw [Nat.mul_one]; exact hgd)
 have hbp : 0 < b := by
  rcases Nat.eq_zero_or_pos b with h | h
  ·subst h; omega
  ·exact h
 have hm1 : a * d = m.natAbs * b := by
  generalize Nat.gcd m.natAbs d = g at *
  rw [ha, hb]
  generalize m.natAbs = n at *
  rw [Nat.mul_comm g b, ← Nat.mul_assoc, Nat.mul_comm g a, Nat.mul_assoc a b g, Nat.mul_comm b g, ← Nat.mul_assoc]
 have hle1 : a ≤ m.natAbs := by rw [← ea]; exact Nat.div_le_self _ _
 have hle2 : b ≤ d := by rw [← eb]; exact Nat.div_le_self _ _
 unfold mkQ
 rw [ea, eb]
 have hm2 : ((a * d : Nat) : Int) = ((m.natAbs * b : Nat) : Int) := by rw [hm1]
 rw [Int.natCast_mul, Int.natCast_mul] at hm2
 by_cases h : m < 0
 ·rw [if_pos h]
  refine ⟨?_, by omega, by simp; omega, by simp; omega, by simpa using hco⟩
  simp only
  rw [Int.neg_mul, hm2, show m = -(m.natAbs : Int) by omega, Int.neg_mul, Int.natAbs_neg, Int.natAbs_natCast]
 ·rw [if_neg h]
  refine ⟨?_, by simp only; omega, by simpa using hle1, by simpa using hle2, by simpa using hco⟩
  simp only
  rw [hm2, show m = (m.natAbs : Int) by omega, Int.natAbs_natCast]
theorem mkQ_le (m m' : Int) (d : Nat) (hd : 0 < d) (h : m ≤ m') : (mkQ m d).1 * (mkQ m' d).2 ≤ (mkQ m' d).1 * (mkQ m d).2 := by
 obtain ⟨h1, h2, _⟩ := mkQ_mul m d hd
 obtain ⟨k1, k2, _⟩ := mkQ_mul m' d hd
 generalize mkQ m d = A at *
 generalize mkQ m' d = B at *
 refine Int.le_of_mul_le_mul_right (a := (d : Int)) ?_ (by omega)
 have e1 : A.1 * B.2 * (d : Int) = m * (A.2 * B.2) := by rw [Int.mul_right_comm, h1, Int.mul_assoc]
 have e2 : B.1 * A.2 * (d : Int) = m' * (A.2 * B.2) := by rw [Int.mul_right_comm, k1, Int.mul_assoc, Int.mul_comm B.2]
 rw [e1, e2]
 exact Int.mul_le_mul_of_nonneg_right h (Int.le_of_lt (Int.mul_pos h2 k2))
end Go.Proofs.YtibedaeefnjjlaaGreat
namespace Go.Proofs.YtibedaeefnjjlaaGreat
open Go.RowKit Go.Ab Go.Wd
theorem ws_getDN : ∀ (m k p : Nat), p < k → (ws m k).getD p 0 = wo m p
 | m, 0, p, h => by omega
 | m, k + 1, 0, h => by rw [ws, wo0]; rfl
 | m, k + 1, p + 1, h => by
  rw [ws, List.getD_cons_succ, ws_getDN (m / B64) k p (by omega)]
  unfold wo
  rw [Nat.pow_succ, Nat.mul_comm, Nat.div_div_eq_div_mul]
theorem up_round (a : List Nat) (hw : Wds a) (w r i N : Nat) (hr : r < 64) (hi : i < a.length) (hN : a.length + w < N) :
  ∃ c lo hi2 : Nat, c < 2 ^ r ∧ lo = a.getD i 0 * 2 ^ r % B64 ∧ lo % 2 ^ r = 0 ∧ c + lo < B64 ∧ hi2 = a.getD i 0 / 2 ^ (64 - r) ∧ hi2 < B64 ∧ (r = 0 → hi2 = 0) ∧
   (ws (val (a.take i) * 2 ^ (64 * w + r)) N).getD (i + w) 0 = c ∧ (ws (val (a.take i) * 2 ^ (64 * w + r)) N).getD (i + w + 1) 0 = 0 ∧
   ((ws (val (a.take i) * 2 ^ (64 * w + r)) N).set (i + w) (c + lo)).set (i + w + 1) hi2 = ws (val (a.take (i + 1)) * 2 ^ (64 * w + r)) N := by
 have hx := hw.get i
 have hV := val_take_lt a hw i (by omega)
 have hV2 := val_take_succ a i hi
 have ep : 2 ^ (64 * w + r) = B64 ^ w * 2 ^ r := by rw [Nat.pow_add, Nat.pow_mul, ← B64_two]
 obtain ⟨s, hs⟩ : ∃ s, s = 64 - r := ⟨_, rfl⟩
 have hb : B64 = 2 ^ s * 2 ^ r := by rw [B64_two, ← Nat.pow_add]; congr 1; omega
 have hps : 0 < 2 ^ s := Nat.pow_pos (by decide)
 have hpr : 0 < 2 ^ r := Nat.pow_pos (by decide)
 have hr0 : r = 0 → 2 ^ s = B64 := fun h => by rw [hs, h, ← B64_two]
 rw [← hs]
 have hbw : 0 < B64 ^ w := Nat.pow_pos (by decide)
 have hbi : 0 < B64 ^ i := Nat.pow_pos (by decide)
 generalize val (a.take i) = V at *
 generalize val (a.take (i + 1)) = V2 at *
 generalize a.getD i 0 = x at *
 generalize 2 ^ r = R at *
 generalize 2 ^ s = S at *
 rw [ep]
 -- M = V * (B^w * R) < B^(i+w) * R
 obtain ⟨M, hM⟩ : ∃ M, M = V * (B64 ^ w * R) := ⟨_, rfl⟩
 have hMlt : M < B64 ^ (i + w) * R := by
  have : V * (B64 ^ w * R) < B64 ^ i * (B64 ^ w * R) := Nat.mul_lt_mul_of_pos_right hV (Nat.mul_pos hbw hpr)
  rw [hM, Nat.pow_add, Nat.mul_assoc]; exact this
 have hpp : 0 < B64 ^ (i + w) := Nat.pow_pos (by decide)
 have hc : M / B64 ^ (i + w) < R := by rw [Nat.div_lt_iff_lt_mul hpp, Nat.mul_comm]; exact hMlt
 have hRB : R ≤ B64 := by rw [hb]; exact Nat.le_mul_of_pos_left R hps
 have hlo : x * R % B64 = R * (x % S) := by rw [hb, Nat.mul_comm x R, Nat.mul_comm S R, Nat.mul_mod_mul_left]
 have hcl : M / B64 ^ (i + w) + x * R % B64 < B64 := by
  rw [hlo]
  have h1 : x % S < S := Nat.mod_lt _ hps
  have h2 : R * (x % S + 1) ≤ R * S := Nat.mul_le_mul (Nat.le_refl _) h1
  have hRS : R * S = B64 := by rw [hb, Nat.mul_comm]
  rw [Nat.mul_add, hRS] at h2
  generalize M / B64 ^ (i + w) = c at hc ⊢
  generalize R * (x % S) = d at h2 ⊢
  omega
 have hsum : x * R = x * R % B64 + B64 * (x / S) := by
  have h1 := Nat.mod_add_div x S
  rw [hlo, show B64 = R * S by rw [hb, Nat.mul_comm], Nat.mul_assoc, ← Nat.mul_add, h1, Nat.mul_comm]
 have hwoP : (ws M N).getD (i + w) 0 = M / B64 ^ (i + w) := by
  rw [ws_getDN M N (i + w) (by omega)]
  exact Nat.mod_eq_of_lt (by omega)
 have hwoQ : (ws M N).getD (i + w + 1) 0 = 0 := by
  rw [ws_getDN M N (i + w + 1) (by omega)]
  refine wo_zero_of_lt ?_
  rw [Nat.pow_succ]
  exact Nat.lt_of_lt_of_le hMlt (Nat.mul_le_mul (Nat.le_refl _) hRB)
 have hMN : M < B64 ^ N := by
  have h1 : B64 ^ (i + w) * R ≤ B64 ^ (i + w) * B64 := Nat.mul_le_mul (Nat.le_refl _) hRB
  rw [← Nat.pow_succ] at h1
  have h2 : B64 ^ (i + w).succ ≤ B64 ^ N := Nat.pow_le_pow_right (by decide) (by omega)
  omega
 rw [← hM]
 refine ⟨M / B64 ^ (i + w), x * R % B64, x / S, hc, rfl, by rw [hlo, Nat.mul_mod_right], hcl, rfl, Nat.lt_of_le_of_lt (Nat.div_le_self _ _) hx, fun h => by rw [hr0 h]; exact Nat.div_eq_of_lt hx, hwoP, hwoQ, ?_⟩
 have hws1 : Wds (((ws M N).set (i + w) (M / B64 ^ (i + w) + x * R % B64)).set (i + w + 1) (x / S)) :=
  ((ws_wds N M).set _ hcl).set _ (Nat.lt_of_le_of_lt (Nat.div_le_self _ _) hx)
 have hv1 := val_set (ws M N) (i + w) (M / B64 ^ (i + w) + x * R % B64) (by rw [ws_len]; omega)
 have hv2 := val_set ((ws M N).set (i + w) (M / B64 ^ (i + w) + x * R % B64)) (i + w + 1) (x / S) (by rw [List.length_set, ws_len]; omega)
 have hg2 : ((ws M N).set (i + w) (M / B64 ^ (i + w) + x * R % B64)).getD (i + w + 1) 0 = 0 := by
  have h1 : ((ws M N).set (i + w) (M / B64 ^ (i + w) + x * R % B64))[i + w + 1]? = (ws M N)[i + w + 1]? := List.getElem?_set_ne (by omega)
  rw [List.getD_eq_getElem?_getD, h1, ← List.getD_eq_getElem?_getD]
  exact hwoQ
 rw [hg2, Nat.mul_zero, Nat.add_zero] at hv2
 rw [hwoP, val_ws N M hMN, Nat.mul_add] at hv1
 have hfin : val (((ws M N).set (i + w) (M / B64 ^ (i + w) + x * R % B64)).set (i + w + 1) (x / S)) = V2 * (B64 ^ w * R) := by
  have e1 : B64 ^ i * x * (B64 ^ w * R) = B64 ^ (i + w) * (x * R) := by
   rw [Nat.pow_add]; simp only [Nat.mul_assoc, Nat.mul_comm, Nat.mul_left_comm]
  have h3 : B64 ^ (i + w) * (x * R) = B64 ^ (i + w) * (x * R % B64) + B64 ^ (i + w) * (B64 * (x / S)) := by rw [← Nat.mul_add, ← hsum]
  have h4 : B64 ^ (i + w + 1) * (x / S) = B64 ^ (i + w) * (B64 * (x / S)) := by rw [Nat.pow_succ, Nat.mul_assoc]
  rw [hV2, Nat.add_mul, ← hM, e1, h3]
  omega
 have := ws_val _ hws1
 rw [hfin, List.length_set, List.length_set, ws_len] at this
 exact this.symm
def ruS (a l : List Nat) (k i : Nat) : St := ⟨[(0, .r (.sl 1 (wns a))), (1, .r (.v (.int .i64 (k : Int)))), (5, .ow 0), (6, .r (.v (.int .i64 (i : Int))))], [(0, some (.row 33 1 (wns l)))], 1⟩
set_option maxHeartbeats 4000000 in
theorem refUpL_f (a : List Nat) (hw : Wds a) (w r : Nat) (hla : a.length ≤ 100) (hw100 : w ≤ 100) (hr : r < 64) : Meets Tryz.prog 120 [.r (.sl 1 (wns a)), .r (.v (.int .i64 ((64 * w + r : Nat) : Int)))] [] (.fr 33 1 (wns (tw (val a * 2 ^ (64 * w + r))))) [] := by
 have hround := fun i hi => up_round a hw w r i (a.length + w + 1) hr hi (by omega)
 have hq : IntKind.i64.wrap (Int.tdiv ((64 * w + r : Nat) : Int) 64) = (w : Int) := by rw [IntKind.wrap_i64, Int.tdiv_eq_ediv_of_nonneg (by omega)]; omega
 have hrem : Int.tmod ((64 * w + r : Nat) : Int) 64 = (r : Int) := by rw [Int.tmod_eq_emod_of_nonneg (by omega)]; omega
 have hz : ws (val (a.take 0) * 2 ^ (64 * w + r)) (a.length + w + 1) = List.replicate (a.length + w + 1) 0 := by
  rw [List.take_zero]
  show ws (0 * _) _ = _
  rw [Nat.zero_mul]
  have : ∀ k, ws 0 k = List.replicate k 0 := by
   intro k
   induction k with
   | zero => rfl
   | succ k ih => rw [ws, Nat.zero_div, ih, List.replicate_succ, Nat.zero_mod]
  exact this _
 have hfin : trim (ws (val (a.take a.length) * 2 ^ (64 * w + r)) (a.length + w + 1)) = tw (val a * 2 ^ (64 * w + r)) := by
  rw [trim_tw _ (ws_wds _ _), List.take_length, val_ws]
  have h1 := val_lt a hw
  have h2 : 2 ^ (64 * w + r) ≤ 2 ^ (64 * (w + 1)) := Nat.pow_le_pow_right (by decide) (by omega)
  rw [Nat.pow_mul, ← B64_two] at h2
  have h3 : val a * 2 ^ (64 * w + r) ≤ val a * B64 ^ (w + 1) := Nat.mul_le_mul (Nat.le_refl _) h2
  have h4 : val a * B64 ^ (w + 1) < B64 ^ a.length * B64 ^ (w + 1) := Nat.mul_lt_mul_of_pos_right h1 (Nat.pow_pos (by decide))
  rw [← Nat.pow_add, ← Nat.add_assoc] at h4
  omega
 rw [← hfin]
 clear hfin
 have l1 := wns_len a
 have s1 := nat_addI a.length w (by omega)
 have s2 := nat_incI (a.length + w) (by omega)
 rw [← l1] at s1 s2
 have hrep : List.replicate ((wns a).length + w + 1) (List.map RV.v [Value.int IntKind.u64 0]) = wns (List.replicate (a.length + w + 1) 0) := by
  rw [l1]; unfold wns; rw [List.map_replicate]; rfl
 have cT := trim_o (ws (val (a.take a.length) * 2 ^ (64 * w + r)) (a.length + w + 1)) (by rw [ws_len]; omega)
 obtain ⟨f, hf⟩ : ∃ f : Nat → List Nat, f = fun i => ws (val (a.take i) * 2 ^ (64 * w + r)) (a.length + w + 1) := ⟨_, rfl⟩
 have hfl : ∀ i, (f i).length = a.length + w + 1 := fun i => by rw [hf]; exact ws_len _ _
 have hround2 : ∀ i, i < a.length → ∃ c lo hi2 : Nat, c < 2 ^ r ∧ lo = a.getD i 0 * 2 ^ r % B64 ∧ lo % 2 ^ r = 0 ∧ c + lo < B64 ∧ hi2 = a.getD i 0 / 2 ^ (64 - r) ∧ hi2 < B64 ∧ (r = 0 → hi2 = 0) ∧ (f i).getD (i + w) 0 = c ∧ (f i).getD (i + w + 1) 0 = 0 ∧ ((f i).set (i + w) (c + lo)).set (i + w + 1) hi2 = f (i + 1) := by rw [hf]; exact hround
 have cT2 : Meets Tryz.prog 115 [.ow 0] [.row 33 1 (wns (f a.length))] (.fr 33 1 (wns (trim (f a.length)))) [none] := by rw [hf]; exact cT
 have hz2 : f 0 = List.replicate (a.length + w + 1) 0 := by rw [hf]; exact hz
 have hres : ws (val (a.take a.length) * 2 ^ (64 * w + r)) (a.length + w + 1) = f a.length := by rw [hf]
 rw [hres]
 clear hf hres hround cT hz
 generalize 64 * w + r = k at *
 refine fn_of Tryz.func120 rfl (Nat.le_of_ble_eq_true rfl) rfl rfl ?_
 (repeat' (first | refine r_4eabd4 ?_ | (refine r_0efca5 (fun hb => ?_) (fun hb => ?_) <;> (try (exfalso; omega))) | fail))
 refine awp_loop' (fun x : Nat × List Nat => ruS a x.2 k x.1) (fun x => x.1 ≤ a.length ∧ x.2 = f x.1) (fun x => a.length - x.1) (0, List.replicate (a.length + w + 1) 0) ⟨Nat.zero_le _, hz2.symm⟩ (by (refine Le.mk [(0,0)] [] q_5ec36 q_43730 q_16bb5 q_509a2)) fun x hx => ?_
 obtain ⟨i, l⟩ := x
 obtain ⟨hx1, hx2⟩ := hx
 dsimp only at hx1 hx2
 change awp _ _ _ _ _ (ruS a l k i)
 rcases Nat.lt_or_ge i a.length with hi | hi
 ·obtain ⟨c, lo, hi2, q1, q2, q3, q4, q5, q6, q7, q8, q9, q10⟩ := hround2 i hi
  have hll : l.length = a.length + w + 1 := by rw [hx2]; exact hfl i
  rw [← hx2] at q8 q9 q10
  have l3 := wns_len l
  have ga := wns_get (l := a) (i := i) hi
  have g1 := wns_get (l := l) (i := i + w) (by omega)
  rw [q8] at g1
  have c1 := shl_u64 (a.getD i 0) r hr
  rw [← q2] at c1
  have hor := or_u64b c lo r q3 q1 q4
  obtain ⟨s, hs⟩ : ∃ s, s = 64 - r := ⟨_, rfl⟩
  have hsr : IntKind.i64.wrap (64 - (r : Int)) = (s : Int) := by rw [IntKind.wrap_i64]; omega
  have c2 := shr_u64 (a.getD i 0) s (by omega)
  rw [hs, ← q5, ← hs] at c2
  have hor2 := or_u64 0 hi2 64 rfl (by rw [← B64_two]; exact q6) (by omega)
  rw [Nat.zero_add] at hor2
  have hinc : IntKind.i64.wrap ((i : Int) + 1) = ((i + 1 : Nat) : Int) := nat_incI i (by omega)
  have hiw := nat_addI i w (by omega)
  have hiw1 := nat_incI (i + w) (by omega)
  have cv1 : IntKind.u64.wrap (r : Int) = (r : Int) := by rw [IntKind.wrap_u64]; omega
  have cv2 : IntKind.u64.wrap (s : Int) = (s : Int) := by rw [IntKind.wrap_u64]; omega
  have hE1 : (wns l).set (i + w) [.v (.int .u64 ((c + lo : Nat) : Int))] = wns (l.set (i + w) (c + lo)) := wns_set l _ _
  have g2 : (wns (l.set (i + w) (c + lo)))[i + w + 1]? = some [.v (.int .u64 (0 : Nat))] := by
   rw [wns_get (by rw [List.length_set]; omega)]
   have : (l.set (i + w) (c + lo)).getD (i + w + 1) 0 = 0 := by
    have h1 : (l.set (i + w) (c + lo))[i + w + 1]? = l[i + w + 1]? := List.getElem?_set_ne (by omega)
    rw [List.getD_eq_getElem?_getD, h1, ← List.getD_eq_getElem?_getD]
    exact q9
   rw [this]
  have l4 : (wns (l.set (i + w) (c + lo))).length = a.length + w + 1 := by rw [wns_len, List.length_set]; exact hll
  have hE2 : (wns (l.set (i + w) (c + lo))).set (i + w + 1) [.v (.int .u64 ((hi2 : Nat) : Int))] = wns ((l.set (i + w) (c + lo)).set (i + w + 1) hi2) := wns_set _ _ _
  rw [← hE1] at g2 l4 hE2
  have hsmall : i + w + 1 < a.length + w + 1 := by omega
  by_cases hr0 : r = 0
  ·have e : l.set (i + w) (c + lo) = f (i + 1) := by
    rw [← q10, q7 hr0]
    have : (l.set (i + w) (c + lo)).getD (i + w + 1) 0 = 0 := by
     have h1 : (l.set (i + w) (c + lo))[i + w + 1]? = l[i + w + 1]? := List.getElem?_set_ne (by omega)
     rw [List.getD_eq_getElem?_getD, h1, ← List.getD_eq_getElem?_getD]
     exact q9
    apply List.ext_getElem?
    intro p
    by_cases hp : p = i + w + 1
    ·subst hp
     rw [List.getElem?_set_self (by rw [List.length_set]; omega)]
     have h2 : i + w + 1 < (l.set (i + w) (c + lo)).length := by rw [List.length_set]; omega
     rw [List.getD_eq_getElem?_getD] at this
     rw [List.getElem?_eq_getElem h2] at this ⊢
     simp only [Option.getD_some] at this
     rw [this]
    ·exact (List.getElem?_set_ne (fun h => hp h.symm)).symm
   clear q1 q2 q3 q4 q5 q6 q7 q8 q9 q10 hE2 g2 l4 c2 hor2 hround2 cT2 hfl hz2
   (repeat' (first | refine r_4eabd4 ?_ | (refine r_0efca5 (fun hb => ?_) (fun hb => ?_) <;> (try (exfalso; omega))) | fail))
   all_goals (first | (exfalso; omega) | exact ⟨(i + 1, l.set (i + w) (c + lo)), ⟨hi, e⟩, by show Le _ _ (ruS a (l.set (i + w) (c + lo)) k (i + 1)); (refine Le.mk [(0,0)] [] q_5ec36 q_43730 q_16bb5 q_509a2), by show a.length - (i + 1) < a.length - i; omega⟩)
  ·clear q1 q2 q3 q4 q5 q6 q7 q8 q9 hround2 cT2 hfl hz2
   (repeat' (first | refine r_4eabd4 ?_ | (refine r_0efca5 (fun hb => ?_) (fun hb => ?_) <;> (try (exfalso; omega))) | fail))
   all_goals (first | (exfalso; omega) | exact ⟨(i + 1, (l.set (i + w) (c + lo)).set (i + w + 1) hi2), ⟨hi, q10⟩, by show Le _ _ (ruS a ((l.set (i + w) (c + lo)).set (i + w + 1) hi2) k (i + 1)); (refine Le.mk [(0,0)] [] q_5ec36 q_43730 q_16bb5 q_509a2), by show a.length - (i + 1) < a.length - i; omega⟩)
 ·have hie : i = a.length := by omega
  subst hie
  rw [← hx2] at cT2 ⊢
  (repeat' (first | refine r_4eabd4 ?_ | (refine is_f 115 ?_; refine r_181b4d (cT2) ?_) | (refine r_0efca5 (fun hb => ?_) (fun hb => ?_) <;> (try (exfalso; omega))) | fail))
  all_goals (first | (exfalso; omega) | exact ret1 [] (.fr 1 _ _ _ rfl) rfl rfl rfl | exact ret1 [] (.fr 2 _ _ _ rfl) rfl rfl rfl)
end Go.Proofs.YtibedaeefnjjlaaGreat
namespace Go.Proofs.YtibedaeefnjjlaaGreat
open Go.RowKit Go.Ab Go.Wd
theorem tw_len_le {m n : Nat} (h : n ≤ m) : (tw n).length ≤ (tw m).length := by
 rcases Nat.lt_or_ge (tw m).length (tw n).length with h1 | h1
 ·have := tw_len_cmp h1; omega
 ·exact h1
set_option maxHeartbeats 8000000 in
theorem rAdd_m (x y : Int) (hx : x.natAbs < B64 ^ 4) (hy : y.natAbs < B64 ^ 4) (hxy : (x + y).natAbs < B64 ^ 4) : Meets Tryz.prog 90 [wz x, wz y] [] (.tu [wz (x + y), .r (.v (.bool true))]) [] := by
 have c1 := cleanRZ_m x hx
 have c2 := cleanRZ_m y hy
 rcases int_sign x with ⟨m, rfl⟩ | ⟨m, hm, rfl⟩ <;> rcases int_sign y with ⟨n, rfl⟩ | ⟨n, hn, rfl⟩
 ·have hM : m < B64 ^ 4 := by simpa using hx
  have hN : n < B64 ^ 4 := by simpa using hy
  have l1 := tw_len 4 m hM
  have l2 := tw_len 4 n hN
  have o1 := of_m false m hM
  have o2 := of_m false n hN
  rw [wz_nat m] at c1
  rw [wz_nat n] at c2
  rw [wz_nat m, wz_nat n]
  have hS : m + n < B64 ^ 4 := by omega
  have cA := refAddL_m (tw m) (tw n) (tw_wds m) (tw_wds n) (by omega) (by omega)
  rw [val_tw, val_tw] at cA
  have cS := wideZ_m false (m + n) hS
  rw [zb_f] at cS
  rw [show (m : Int) + (n : Int) = ((m + n : Nat) : Int) by omega]
  generalize m + n = s at *
  refine fn_of Tryz.func90 rfl (Nat.le_of_ble_eq_true rfl) rfl rfl ?_
  (repeat' (first | refine r_4eabd4 ?_ | (refine is_f 78 ?_; refine r_bb2b31 (c1) ?_) | (refine is_f 78 ?_; refine r_bb2b31 (c2) ?_) | (refine is_f 81 ?_; refine r_bb2b31 (o1) ?_) | (refine is_f 81 ?_; refine r_bb2b31 (o2) ?_) | (refine is_f 86 ?_; refine r_bb2b31 (cA) ?_) | (refine is_f 79 ?_; refine r_bb2b31 (cS) ?_) | (refine r_0efca5 (fun hb => ?_) (fun hb => ?_) <;> (try (exfalso; omega))) | fail))
  all_goals (first | exact absurd rfl hb | exact ret2c [] (Rt.wz _) (.bool rfl) rfl rfl rfl rfl rfl (post_none rfl) rfl)
 ·have hM : m < B64 ^ 4 := by simpa using hx
  have hN : n < B64 ^ 4 := by simpa using hy
  have l1 := tw_len 4 m hM
  have l2 := tw_len 4 n hN
  have o1 := of_m false m hM
  have o2 := of_m true n hN
  rw [wz_nat m] at c1
  rw [wz_neg n hn] at c2
  rw [wz_nat m, wz_neg n hn]
  have cC := compare_m m n (by omega) (by omega)
  rcases Nat.lt_or_ge m n with hlt | hge
  ·have cA := refSubL_m (tw n) (tw m) (tw_wds n) (tw_wds m) (by omega) (tw_len_le (by omega)) (by rw [val_tw, val_tw]; omega)
   rw [val_tw, val_tw] at cA
   have cS := wideZ_m true (n - m) (by omega)
   have hc := cmpN_lt0 hlt
   rw [zb_t] at cS
   rw [show (m : Int) + -(n : Int) = -((n - m : Nat) : Int) by omega]
   generalize n - m = s at *
   generalize cmpN m n = e at *
   refine fn_of Tryz.func90 rfl (Nat.le_of_ble_eq_true rfl) rfl rfl ?_
   (repeat' (first | refine r_4eabd4 ?_ | (refine is_f 78 ?_; refine r_bb2b31 (c1) ?_) | (refine is_f 78 ?_; refine r_bb2b31 (c2) ?_) | (refine is_f 81 ?_; refine r_bb2b31 (o1) ?_) | (refine is_f 81 ?_; refine r_bb2b31 (o2) ?_) | (refine is_f 82 ?_; refine r_bb2b31 (cC) ?_) | (refine is_f 87 ?_; refine r_bb2b31 (cA) ?_) | (refine is_f 79 ?_; refine r_bb2b31 (cS) ?_) | (refine r_0efca5 (fun hb => ?_) (fun hb => ?_) <;> (try (exfalso; omega))) | fail))
   all_goals (first | (exfalso; omega) | exact absurd rfl hb | exact ret2c [] (Rt.wz _) (.bool rfl) rfl rfl rfl rfl rfl (post_none rfl) rfl)
  ·have cA := refSubL_m (tw m) (tw n) (tw_wds m) (tw_wds n) (by omega) (tw_len_le hge) (by rw [val_tw, val_tw]; omega)
   rw [val_tw, val_tw] at cA
   have cS := wideZ_m false (m - n) (by omega)
   have hc := cmpN_ge hge
   rw [zb_f] at cS
   rw [show (m : Int) + -(n : Int) = ((m - n : Nat) : Int) by omega]
   generalize m - n = s at *
   generalize cmpN m n = e at *
   refine fn_of Tryz.func90 rfl (Nat.le_of_ble_eq_true rfl) rfl rfl ?_
   (repeat' (first | refine r_4eabd4 ?_ | (refine is_f 78 ?_; refine r_bb2b31 (c1) ?_) | (refine is_f 78 ?_; refine r_bb2b31 (c2) ?_) | (refine is_f 81 ?_; refine r_bb2b31 (o1) ?_) | (refine is_f 81 ?_; refine r_bb2b31 (o2) ?_) | (refine is_f 82 ?_; refine r_bb2b31 (cC) ?_) | (refine is_f 87 ?_; refine r_bb2b31 (cA) ?_) | (refine is_f 79 ?_; refine r_bb2b31 (cS) ?_) | (refine r_0efca5 (fun hb => ?_) (fun hb => ?_) <;> (try (exfalso; omega))) | fail))
   all_goals (first | (exfalso; omega) | exact absurd rfl hb | exact ret2c [] (Rt.wz _) (.bool rfl) rfl rfl rfl rfl rfl (post_none rfl) rfl)
 ·have hM : m < B64 ^ 4 := by simpa using hx
  have hN : n < B64 ^ 4 := by simpa using hy
  have l1 := tw_len 4 m hM
  have l2 := tw_len 4 n hN
  have o1 := of_m true m hM
  have o2 := of_m false n hN
  rw [wz_neg m hm] at c1
  rw [wz_nat n] at c2
  rw [wz_neg m hm, wz_nat n]
  have cC := compare_m m n (by omega) (by omega)
  rcases Nat.lt_or_ge m n with hlt | hge
  ·have cA := refSubL_m (tw n) (tw m) (tw_wds n) (tw_wds m) (by omega) (tw_len_le (by omega)) (by rw [val_tw, val_tw]; omega)
   rw [val_tw, val_tw] at cA
   have cS := wideZ_m false (n - m) (by omega)
   have hc := cmpN_lt0 hlt
   rw [zb_f] at cS
   rw [show -(m : Int) + (n : Int) = ((n - m : Nat) : Int) by omega]
   generalize n - m = s at *
   generalize cmpN m n = e at *
   refine fn_of Tryz.func90 rfl (Nat.le_of_ble_eq_true rfl) rfl rfl ?_
   (repeat' (first | refine r_4eabd4 ?_ | (refine is_f 78 ?_; refine r_bb2b31 (c1) ?_) | (refine is_f 78 ?_; refine r_bb2b31 (c2) ?_) | (refine is_f 81 ?_; refine r_bb2b31 (o1) ?_) | (refine is_f 81 ?_; refine r_bb2b31 (o2) ?_) | (refine is_f 82 ?_; refine r_bb2b31 (cC) ?_) | (refine is_f 87 ?_; refine r_bb2b31 (cA) ?_) | (refine is_f 79 ?_; refine r_bb2b31 (cS) ?_) | (refine r_0efca5 (fun hb => ?_) (fun hb => ?_) <;> (try (exfalso; omega))) | fail))
   all_goals (first | (exfalso; omega) | exact absurd rfl hb | exact ret2c [] (Rt.wz _) (.bool rfl) rfl rfl rfl rfl rfl (post_none rfl) rfl)
  ·have cA := refSubL_m (tw m) (tw n) (tw_wds m) (tw_wds n) (by omega) (tw_len_le hge) (by rw [val_tw, val_tw]; omega)
   rw [val_tw, val_tw] at cA
   have cS := wideZ_m true (m - n) (by omega)
   have hc := cmpN_ge hge
   rw [zb_t] at cS
   rw [show -(m : Int) + (n : Int) = -((m - n : Nat) : Int) by omega]
   generalize m - n = s at *
   generalize cmpN m n = e at *
   refine fn_of Tryz.func90 rfl (Nat.le_of_ble_eq_true rfl) rfl rfl ?_
   (repeat' (first | refine r_4eabd4 ?_ | (refine is_f 78 ?_; refine r_bb2b31 (c1) ?_) | (refine is_f 78 ?_; refine r_bb2b31 (c2) ?_) | (refine is_f 81 ?_; refine r_bb2b31 (o1) ?_) | (refine is_f 81 ?_; refine r_bb2b31 (o2) ?_) | (refine is_f 82 ?_; refine r_bb2b31 (cC) ?_) | (refine is_f 87 ?_; refine r_bb2b31 (cA) ?_) | (refine is_f 79 ?_; refine r_bb2b31 (cS) ?_) | (refine r_0efca5 (fun hb => ?_) (fun hb => ?_) <;> (try (exfalso; omega))) | fail))
   all_goals (first | (exfalso; omega) | exact absurd rfl hb | exact ret2c [] (Rt.wz _) (.bool rfl) rfl rfl rfl rfl rfl (post_none rfl) rfl)
 ·have hM : m < B64 ^ 4 := by simpa using hx
  have hN : n < B64 ^ 4 := by simpa using hy
  have l1 := tw_len 4 m hM
  have l2 := tw_len 4 n hN
  have o1 := of_m true m hM
  have o2 := of_m true n hN
  rw [wz_neg m hm] at c1
  rw [wz_neg n hn] at c2
  rw [wz_neg m hm, wz_neg n hn]
  have hS : m + n < B64 ^ 4 := by omega
  have cA := refAddL_m (tw m) (tw n) (tw_wds m) (tw_wds n) (by omega) (by omega)
  rw [val_tw, val_tw] at cA
  have cS := wideZ_m true (m + n) hS
  rw [zb_t] at cS
  rw [show -(m : Int) + -(n : Int) = -((m + n : Nat) : Int) by omega]
  generalize m + n = s at *
  refine fn_of Tryz.func90 rfl (Nat.le_of_ble_eq_true rfl) rfl rfl ?_
  (repeat' (first | refine r_4eabd4 ?_ | (refine is_f 78 ?_; refine r_bb2b31 (c1) ?_) | (refine is_f 78 ?_; refine r_bb2b31 (c2) ?_) | (refine is_f 81 ?_; refine r_bb2b31 (o1) ?_) | (refine is_f 81 ?_; refine r_bb2b31 (o2) ?_) | (refine is_f 86 ?_; refine r_bb2b31 (cA) ?_) | (refine is_f 79 ?_; refine r_bb2b31 (cS) ?_) | (refine r_0efca5 (fun hb => ?_) (fun hb => ?_) <;> (try (exfalso; omega))) | fail))
  all_goals (first | exact absurd rfl hb | exact ret2c [] (Rt.wz _) (.bool rfl) rfl rfl rfl rfl rfl (post_none rfl) rfl)
theorem rSub_m (x y : Int) (hx : x.natAbs < B64 ^ 4) (hy : y.natAbs < B64 ^ 4) (hxy : (x - y).natAbs < B64 ^ 4) : Meets Tryz.prog 89 [wz x, wz y] [] (.tu [wz (x - y), .r (.v (.bool true))]) [] := by
 have c1 := rNeg_m y hy
 have c2 := rAdd_m x (-y) hx (by omega) (by rw [← Int.sub_eq_add_neg]; exact hxy)
 rw [← Int.sub_eq_add_neg] at c2
 refine fn_of Tryz.func89 rfl (Nat.le_of_ble_eq_true rfl) rfl rfl ?_
 (repeat' (first | refine r_4eabd4 ?_ | (refine is_f 50 ?_; refine r_bb2b31 (c1) ?_) | (refine is_f 90 ?_; refine r_bb2b31 (c2) ?_) | (refine r_0efca5 (fun hb => ?_) (fun hb => ?_) <;> (try (exfalso; omega))) | fail))
 all_goals (first | exact ret2c [] (Rt.wz _) (.bool rfl) rfl rfl rfl rfl rfl (post_none rfl) rfl)
end Go.Proofs.YtibedaeefnjjlaaGreat
namespace Go.Proofs.YtibedaeefnjjlaaGreat
open Go.RowKit Go.Ab Go.Wd
def W32 : Nat := 4294967296
theorem W32_v : W32 = 4294967296 := rfl
def KI (a b u n q rh : Nat) : Prop := q * a + rh = u ∧ (u * W32 + n) / (a * W32 + b) ≤ q ∧ rh < W32
structure KP (a b u n : Nat) : Prop where
 a1 : W32 ≤ 2 * a
 a2 : a < W32
 hb : b < W32
 hn : n < W32
 hu : u < a * W32 + b
theorem KP.pos {a b u n : Nat} (h : KP a b u n) : 0 < a * W32 + b := by have := h.hu; omega
theorem KP.q {a b u n : Nat} (h : KP a b u n) : (u * W32 + n) / (a * W32 + b) < W32 := by
 rw [Nat.div_lt_iff_lt_mul h.pos, Nat.mul_comm W32]
 have h1 := h.hu
 have h2 := h.hn
 generalize a * W32 + b = y at *
 have : (u + 1) * W32 ≤ y * W32 := Nat.mul_le_mul h1 (Nat.le_refl _)
 rw [Nat.add_mul] at this
 omega
theorem kn_init {a b u n : Nat} (h : KP a b u n) : KI a b u n (u / a) (u % a) := by
 have ha : 0 < a := by have := h.a1; rw [W32_v] at this; omega
 refine ⟨by rw [Nat.mul_comm]; exact Nat.div_add_mod u a, ?_, Nat.lt_trans (Nat.mod_lt _ ha) h.a2⟩
 rw [Nat.le_div_iff_mul_le ha]
 have h1 := Nat.div_mul_le_self (u * W32 + n) (a * W32 + b)
 generalize (u * W32 + n) / (a * W32 + b) = q at *
 have h2 : q * a * W32 ≤ q * (a * W32 + b) := by rw [Nat.mul_add, ← Nat.mul_assoc]; omega
 have h3 : q * a * W32 < (u + 1) * W32 := by rw [Nat.add_mul]; have := h.hn; omega
 have := Nat.lt_of_mul_lt_mul_right h3
 omega
theorem kn_le {a b u n q rh : Nat} (h : KP a b u n) (h1 : q * a + rh = u) (h2 : q * b ≤ W32 * rh + n) : q ≤ (u * W32 + n) / (a * W32 + b) := by
 rw [Nat.le_div_iff_mul_le h.pos, Nat.mul_add, ← h1, Nat.add_mul, ← Nat.mul_assoc, Nat.mul_comm rh]
 omega
theorem kn_stop {a b u n q rh : Nat} (h : KP a b u n) (hi : KI a b u n q rh) (h2 : q * b ≤ W32 * rh + n) : q = (u * W32 + n) / (a * W32 + b) :=
 Nat.le_antisymm (kn_le h hi.1 h2) hi.2.1
theorem kn_go {a b u n q rh : Nat} (h : KP a b u n) (hi : KI a b u n q rh) (hc : W32 ≤ q ∨ W32 * rh + n < q * b) : 1 ≤ q ∧ (q - 1) * a + (rh + a) = u ∧ (u * W32 + n) / (a * W32 + b) ≤ q - 1 := by
 obtain ⟨i1, i2, i3⟩ := hi
 have hlt : (u * W32 + n) / (a * W32 + b) < q := by
  rcases hc with hc | hc
  ·exact Nat.lt_of_lt_of_le h.q hc
  ·rw [Nat.div_lt_iff_lt_mul h.pos, Nat.mul_add, ← i1, Nat.add_mul, ← Nat.mul_assoc, Nat.mul_comm rh]
   omega
 generalize (u * W32 + n) / (a * W32 + b) = Q at *
 have hq : 1 ≤ q := by omega
 refine ⟨hq, ?_, by omega⟩
 obtain ⟨q, rfl⟩ : ∃ m, q = m + 1 := ⟨q - 1, by omega⟩
 rw [Nat.add_sub_cancel, ← i1, Nat.add_mul]; omega
theorem kn_brk {a b u n q rh : Nat} (h : KP a b u n) (h1 : q * a + rh = u) (h2 : (u * W32 + n) / (a * W32 + b) ≤ q) (h3 : W32 ≤ rh) : q = (u * W32 + n) / (a * W32 + b) := by
 refine Nat.le_antisymm (kn_le h h1 ?_) h2
 have hu := h.hu
 have hb := h.hb
 have hq : q < W32 := by
  have : q * a < W32 * a := by rw [Nat.mul_comm W32]; omega
  exact Nat.lt_of_mul_lt_mul_right this
 have e1 : q * b ≤ W32 * W32 := Nat.mul_le_mul (Nat.le_of_lt hq) (Nat.le_of_lt hb)
 have e2 : W32 * W32 ≤ W32 * rh := Nat.mul_le_mul (Nat.le_refl _) h3
 omega
theorem kd_join {u n1 n0 y : Nat} (hy : 0 < y) : ((u * W32 + n1) * W32 + n0) / y = (u * W32 + n1) / y * W32 + ((u * W32 + n1) % y * W32 + n0) / y ∧ ((u * W32 + n1) * W32 + n0) % y = ((u * W32 + n1) % y * W32 + n0) % y := by
 generalize u * W32 + n1 = U
 have e : U * W32 + n0 = (U % y * W32 + n0) + y * (U / y * W32) := by
  have := Nat.mod_add_div U y
  conv => lhs; rw [← this]
  rw [Nat.add_mul, Nat.mul_assoc]; omega
 rw [e]
 refine ⟨?_, Nat.add_mul_mod_self_left _ _ _⟩
 rw [Nat.add_mul_div_left _ _ hy, Nat.add_comm]
theorem kn_shift (N y s : Nat) (hy : 0 < y) : N * 2 ^ s / (y * 2 ^ s) = N / y ∧ N * 2 ^ s % (y * 2 ^ s) / 2 ^ s = N % y := by
 have hp : 0 < 2 ^ s := Nat.pow_pos (by decide)
 exact ⟨Nat.mul_div_mul_right _ _ hp, by rw [Nat.mul_mod_mul_right, Nat.mul_div_cancel _ hp]⟩
theorem kn_words (hi lo y s : Nat) (hlo : lo < B64) (hh : hi < y) (hs : s < 64) (hy : y * 2 ^ s < B64) :
  hi * 2 ^ s < B64 ∧ lo / 2 ^ (64 - s) < 2 ^ s ∧ hi * 2 ^ s + lo / 2 ^ (64 - s) < y * 2 ^ s ∧ (hi * 2 ^ s + lo / 2 ^ (64 - s)) * B64 + lo * 2 ^ s % B64 = (hi * B64 + lo) * 2 ^ s := by
 have hb : B64 = 2 ^ (64 - s) * 2 ^ s := by rw [← Nat.pow_add, show 64 - s + s = 64 by omega, B64_two]
 have hp : 0 < 2 ^ s := Nat.pow_pos (by decide)
 have hp2 : 0 < 2 ^ (64 - s) := Nat.pow_pos (by decide)
 generalize 2 ^ (64 - s) = S at *
 generalize 2 ^ s = R at *
 generalize B64 = Bq at *
 have h1 : lo / S < R := by rw [Nat.div_lt_iff_lt_mul hp2, Nat.mul_comm]; rw [hb] at hlo; exact hlo
 have h2 : (hi + 1) * R ≤ y * R := Nat.mul_le_mul hh (Nat.le_refl _)
 rw [Nat.add_mul] at h2
 refine ⟨by omega, h1, by omega, ?_⟩
 have h3 : lo * R % Bq = lo % S * R := by rw [hb, Nat.mul_mod_mul_right]
 rw [h3]
 have h4 := Nat.mod_add_div lo S
 have e1 : (hi * Bq + lo) * R = hi * Bq * R + lo % S * R + S * (lo / S) * R := by
  conv => lhs; rw [← h4]
  rw [Nat.add_mul, Nat.add_mul]; omega
 rw [e1, Nat.add_mul]
 have e2 : hi * R * Bq = hi * Bq * R := Nat.mul_right_comm _ _ _
 have e3 : lo / S * Bq = S * (lo / S) * R := by rw [hb, ← Nat.mul_assoc, Nat.mul_comm (lo / S)]
 omega
theorem wrapN (z : Int) (m : Nat) (hm : m < B64) (h : ∃ k : Int, z = (m : Int) + k * 18446744073709551616) : IntKind.u64.wrap z = (m : Int) := by
 obtain ⟨k, rfl⟩ := h
 rw [IntKind.wrap_u64]
 unfold B64 at hm
 rw [Int.add_mul_emod_self_right]
 omega
theorem kn_rest (u n q y : Nat) (hy : y < B64) (hr : (u * W32 + n) % y < B64) (hq : q = (u * W32 + n) / y) :
  IntKind.u64.wrap (IntKind.u64.wrap (IntKind.u64.wrap ((u : Int) * 4294967296) + (n : Int)) - IntKind.u64.wrap ((q : Int) * (y : Int))) = (((u * W32 + n) % y : Nat) : Int) := by
 have h := Nat.mod_add_div (u * W32 + n) y
 rw [← hq] at h
 generalize (u * W32 + n) % y = r at *
 refine wrapN _ r hr ?_
 simp only [IntKind.wrap_u64]
 have e1 := Int.emod_add_mul_ediv ((u : Int) * 4294967296) 18446744073709551616
 have e2 := Int.emod_add_mul_ediv ((u : Int) * 4294967296 % 18446744073709551616 + n) 18446744073709551616
 have e3 := Int.emod_add_mul_ediv ((q : Int) * (y : Int)) 18446744073709551616
 have e4 : (r : Int) + (q : Int) * (y : Int) = (u : Int) * 4294967296 + n := by
  have : ((r + y * q : Nat) : Int) = ((u * W32 + n : Nat) : Int) := by rw [h]
  rw [Int.natCast_add, Int.natCast_add, Int.natCast_mul, Int.natCast_mul, Int.mul_comm (y : Int)] at this
  exact this
 refine ⟨((q : Int) * (y : Int)) / 18446744073709551616 - ((u : Int) * 4294967296 % 18446744073709551616 + n) / 18446744073709551616 - ((u : Int) * 4294967296) / 18446744073709551616, ?_⟩
 generalize (q : Int) * (y : Int) = Q at *
 omega
end Go.Proofs.YtibedaeefnjjlaaGreat
