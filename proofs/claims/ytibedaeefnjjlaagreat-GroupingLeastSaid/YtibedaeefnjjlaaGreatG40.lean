/- Texts of the second layer in one: Mq Sa1 Sa2 Gq3 Kn1. -/
import Derived.Test.YtibedaeefnjjlaaGreatG16
import Derived.Test.YtibedaeefnjjlaaGreatG33
import Derived.Test.YtibedaeefnjjlaaGreatG39
import Derived.Test.YtibedaeefnjjlaaGreatG31
/- Plain: a fraction in lowest terms. Conditions: a positive denominator. -/
namespace Go.Proofs.YtibedaeefnjjlaaGreat
set_option linter.unusedVariables false
set_option linter.unusedSimpArgs false

/-- A fraction in lowest terms. -/
def mkQ (m : Int) (d : Nat) : Int × Int := if m < 0 then (-((m.natAbs / Nat.gcd m.natAbs d : Nat) : Int), ((d / Nat.gcd m.natAbs d : Nat) : Int)) else (((m.natAbs / Nat.gcd m.natAbs d : Nat) : Int), ((d / Nat.gcd m.natAbs d : Nat) : Int))
theorem mkQ_mul (m : Int) (d : Nat) (hd : 0 < d) : (mkQ m d).1 * (d : Int) = m * (mkQ m d).2 ∧ 0 < (mkQ m d).2 ∧ (mkQ m d).1.natAbs ≤ m.natAbs ∧ (mkQ m d).2.natAbs ≤ d ∧ Nat.gcd (mkQ m d).1.natAbs (mkQ m d).2.natAbs = 1 := by
  have hg : 0 < Nat.gcd m.natAbs d := Nat.gcd_pos_of_pos_right _ hd
  obtain ⟨a, ha⟩ := Nat.gcd_dvd_left m.natAbs d
  obtain ⟨b, hb⟩ := Nat.gcd_dvd_right m.natAbs d
  have ea : m.natAbs / Nat.gcd m.natAbs d = a := by
    generalize Nat.gcd m.natAbs d = g at *
    rw [ha]; exact Nat.mul_div_cancel_left _ hg
  have eb : d / Nat.gcd m.natAbs d = b := by
    generalize Nat.gcd m.natAbs d = g at *
    rw [hb]; exact Nat.mul_div_cancel_left _ hg
  have hco : Nat.gcd a b = 1 := by
    clear ea eb
    generalize hgd : Nat.gcd m.natAbs d = g at *
    rw [ha, hb, Nat.gcd_mul_left] at hgd
    exact Nat.eq_of_mul_eq_mul_left hg (by rw [Nat.mul_one]; exact hgd)
  have hbp : 0 < b := by
    rcases Nat.eq_zero_or_pos b with h | h
    · subst h; omega
    · exact h
  have hm1 : a * d = m.natAbs * b := by
    generalize Nat.gcd m.natAbs d = g at *
    rw [ha, hb]
    generalize m.natAbs = n at *
    rw [Nat.mul_comm g b, ← Nat.mul_assoc, Nat.mul_comm g a, Nat.mul_assoc a b g, Nat.mul_comm b g, ← Nat.mul_assoc]
  have hle1 : a ≤ m.natAbs := by rw [← ea]; exact Nat.div_le_self _ _
  have hle2 : b ≤ d := by rw [← eb]; exact Nat.div_le_self _ _
  unfold mkQ
  rw [ea, eb]
  have hm2 : ((a * d : Nat) : Int) = ((m.natAbs * b : Nat) : Int) := by rw [hm1]
  rw [Int.natCast_mul, Int.natCast_mul] at hm2
  by_cases h : m < 0
  · rw [if_pos h]
    refine ⟨?_, by omega, by simp; omega, by simp; omega, by simpa using hco⟩
    simp only
    rw [Int.neg_mul, hm2, show m = -(m.natAbs : Int) by omega, Int.neg_mul, Int.natAbs_neg, Int.natAbs_natCast]
  · rw [if_neg h]
    refine ⟨?_, by simp only; omega, by simpa using hle1, by simpa using hle2, by simpa using hco⟩
    simp only
    rw [hm2, show m = (m.natAbs : Int) by omega, Int.natAbs_natCast]
theorem mkQ_le (m m' : Int) (d : Nat) (hd : 0 < d) (h : m ≤ m') : (mkQ m d).1 * (mkQ m' d).2 ≤ (mkQ m' d).1 * (mkQ m d).2 := by
  obtain ⟨h1, h2, _⟩ := mkQ_mul m d hd
  obtain ⟨k1, k2, _⟩ := mkQ_mul m' d hd
  generalize mkQ m d = A at *
  generalize mkQ m' d = B at *
  refine Int.le_of_mul_le_mul_right (a := (d : Int)) ?_ (by omega)
  have e1 : A.1 * B.2 * (d : Int) = m * (A.2 * B.2) := by rw [Int.mul_right_comm, h1, Int.mul_assoc]
  have e2 : B.1 * A.2 * (d : Int) = m' * (A.2 * B.2) := by rw [Int.mul_right_comm, k1, Int.mul_assoc, Int.mul_comm B.2]
  rw [e1, e2]
  exact Int.mul_le_mul_of_nonneg_right h (Int.le_of_lt (Int.mul_pos h2 k2))
end Go.Proofs.YtibedaeefnjjlaaGreat

/- Chapter 21: the law's pieces out of the tape. Conditions: the tape's length. --ext8 -/
namespace Go.Proofs.YtibedaeefnjjlaaGreat
open Go.RowKit Go.Ab Go.Wd
set_option maxRecDepth 100000
set_option linter.unusedVariables false
set_option linter.unusedSimpArgs false

theorem boolM_m (l : List Int) (k : Nat) (n : Nat) (h2 : 2 ≤ n) (hn9 : n < 1000000) (hl : Ints l) (hn : l.length ≤ 140737488351232) : Meets Tryz.prog 20 [.pt 0 0, .r (.v (.int .i64 n))] [tb l k] (.r (.v (.bool (decide (nx l k n = 1))))) [some (tb l (adv l k))] := by
  refine fn_of Tryz.func20 rfl (Nat.le_of_ble_eq_true rfl) rfl rfl ?_
  have h1 : (1 : Int).tmod (n : Int) = ((1 : Nat) : Int) := by rw [Int.tmod_eq_emod_of_nonneg (by omega), Int.emod_eq_of_lt (by omega) (by omega)]; rfl
  (repeat' (first | refine r_95e112 ?_ | (refine is_f 12 ?_; refine r_92fba5 (next_m l k n hl hn (by omega)) ?_) | (refine r_48b933 (fun hb => ?_) (fun hb => ?_) <;> (try (exfalso; omega))) | (refine awp_cond rfl (fun hb => ?_) (fun hb => ?_) <;> (try simp only [Bool.not_eq_true', Bool.not_eq_false', decide_eq_true_eq, decide_eq_false_iff_not] at hb) <;> (try (exfalso; omega)))))
  all_goals exact ret1P [] (.bool (by simpa using hb)) rfl rfl (post_one rfl rfl) rfl
theorem make_m (m : Int) (d : Nat) (hm : m.natAbs < B64) (hd : d < B64) (hd0 : d ≠ 0) : Meets Tryz.prog 22 [wz m, wz (d : Int)] [] (.tu [rt (mkQ m d).1 (mkQ m d).2, .r (.v (.bool true))]) [] := by
  unfold mkQ
  by_cases h : m < 0
  · rw [if_pos h]
    have := rMakeN_m m.natAbs d hm (by omega) hd hd0
    rwa [show -(m.natAbs : Int) = m by omega] at this
  · rw [if_neg h]
    have := rMakeP_m m.natAbs d hm hd hd0
    rwa [show (m.natAbs : Int) = m by omega] at this
/-- One piece of the tape, and the place on the tape behind it. -/
def smD (t : List Int) (q : Nat) : Nat := (1 + nx t q 4).toNat
def smC (t : List Int) (q : Nat) : Cn := ⟨false, (mkQ (nx t (adv t q) 30 - 15) (smD t q)).1, (mkQ (nx t (adv t q) 30 - 15) (smD t q)).2, (mkQ (nx t (adv t q) 30 - 15 + nx t (adv t (adv t q)) 12) (smD t q)).1, (mkQ (nx t (adv t q) 30 - 15 + nx t (adv t (adv t q)) 12) (smD t q)).2⟩
def smO1 (t : List Int) (q i : Nat) (c : Cn) : Pc := ⟨3 * (i : Int) + nx t q 3, 1, nx t (adv t q) 3, c⟩
def smP (t : List Int) (q i : Nat) : Pc × Nat := if nx t (adv t (adv t q)) 6 = 1 then (smO1 t q i ⟨true, 0, 0, 0, 0⟩, adv t (adv t (adv t q))) else (smO1 t q i (smC t (adv t (adv t (adv t q)))), adv t (adv t (adv t (adv t (adv t (adv t q))))))
def smG (t : List Int) : Nat → Nat → List Pc → List Pc × Nat
  | 0, q, acc => (acc, q)
  | i + 1, q, acc => smG t i (smP t q (i + 1)).2 (acc ++ [(smP t q (i + 1)).1])
def smL (t : List Int) (k : Nat) : List Pc × Nat := smG t (nx t k 14).toNat (adv t k) []
def smT (t : List Int) (x : Nat × Nat × List Pc) : St :=
  ⟨[(0, .pt 0 0), (3, .ow 1), (4, .r (.v (.int .i64 (x.1 : Int))))], [(0, some (tb t x.2.1)), (1, some (.row 42 24 (pcs x.2.2)))], 2⟩
theorem pcs_snoc (acc : List Pc) (x : Pc) : pcs acc ++ [(pcVs x).map RV.v] = pcs (acc ++ [x]) := by simp [pcs]
set_option maxHeartbeats 8000000 in
theorem some_m (t : List Int) (k : Nat) (ht : Ints t) (htn : t.length ≤ 140737488351232) : Meets Tryz.prog 8 [.pt 0 0] [tb t k] (.fr 42 24 (pcs (smL t k).1)) [some (tb t (smL t k).2)] := by
  refine fn_of Tryz.func8 rfl (Nat.le_of_ble_eq_true rfl) rfl rfl ?_
  have h1 := nx_range t k (show (1 : Int) ≤ 14 by omega)
  (repeat' (first | refine r_95e112 ?_ | (refine is_f 12 ?_; refine r_92fba5 (next_m t k 14 ht htn (by omega)) ?_) | (refine r_48b933 (fun hb => ?_) (fun hb => ?_) <;> (try (exfalso; omega))) | (refine awp_cond rfl (fun hb => ?_) (fun hb => ?_) <;> (try simp only [Bool.not_eq_true', Bool.not_eq_false', decide_eq_true_eq, decide_eq_false_iff_not] at hb) <;> (try (exfalso; omega)))))
  refine awp_nilow 3 42 24 rfl rfl ?_
  have h00 : ([] : List (List RV)) = pcs [] := rfl
  have hin : nx t k 14 = (((nx t k 14).toNat : Nat) : Int) := by omega
  refine awp_loop' (smT t) (fun x => smG t x.1 x.2.1 x.2.2 = smL t k ∧ x.2.2.length + x.1 ≤ 13) (fun x => x.1) ((nx t k 14).toNat, adv t k, []) ⟨rfl, by simp; omega⟩ (by show Le _ _ (smT t ((nx t k 14).toNat, adv t k, [])); unfold smT; dsimp only; (refine Le.mk [(0,0),(1,1)] [] q_5ec36 q_871b6 q_bbfed q_509a2)) fun x hx => ?_
  obtain ⟨i, q, acc⟩ := x
  obtain ⟨hx1, hx2⟩ := hx
  dsimp only at hx1 hx2
  generalize smL t k = R at *
  clear h1 hin
  have hal : (pcs acc).length = acc.length := pcs_len acc
  rcases i with _ | i
  · rw [smG] at hx1
    subst hx1
    show awp _ _ _ _ _ (smT t (0, q, acc))
    (repeat' (first | refine r_95e112 ?_ | (refine r_48b933 (fun hb => ?_) (fun hb => ?_) <;> (try (exfalso; omega))) | (refine awp_cond rfl (fun hb => ?_) (fun hb => ?_) <;> (try simp only [Bool.not_eq_true', Bool.not_eq_false', decide_eq_true_eq, decide_eq_false_iff_not] at hb) <;> (try (exfalso; omega)))))
    all_goals (first | (exfalso; omega) | exact ret1P [] (.fr 1 _ _ _ rfl) rfl rfl (post_one rfl rfl) rfl)
  · rw [smG] at hx1
    have n1 := nx_range t q (show (1 : Int) ≤ 3 by omega)
    have n2 := nx_range t (adv t q) (show (1 : Int) ≤ 3 by omega)
    have hw1 : IntKind.i64.wrap (((i + 1 : Nat) : Int) - 1) = ((i : Nat) : Int) := by rw [IntKind.wrap_i64]; omega
    have hw2 : IntKind.i64.wrap (3 * ((i + 1 : Nat) : Int)) = 3 * ((i + 1 : Nat) : Int) := by rw [IntKind.wrap_i64]; omega
    have hw3 : IntKind.i64.wrap (3 * ((i + 1 : Nat) : Int) + nx t q 3) = 3 * ((i + 1 : Nat) : Int) + nx t q 3 := by rw [IntKind.wrap_i64]; omega
    show awp _ _ _ _ _ (smT t (i + 1, q, acc))
    unfold smT
    dsimp only
    have cS := rcStart_m
    by_cases hb6 : nx t (adv t (adv t q)) 6 = 1
    · have hsm : smP t q (i + 1) = (smO1 t q (i + 1) ⟨true, 0, 0, 0, 0⟩, adv t (adv t (adv t q))) := if_pos hb6
      rw [hsm] at hx1
      have hE := pcs_snoc acc (smO1 t q (i + 1) ⟨true, 0, 0, 0, 0⟩)
      have cB := boolM_m t (adv t (adv t q)) 6 (by omega) (by omega) ht htn
      rw [show (decide (nx t (adv t (adv t q)) ((6 : Nat) : Int) = 1)) = true from decide_eq_true hb6] at cB
      (repeat' (first | refine r_95e112 ?_ | (refine is_f 12 ?_; refine r_92fba5 (next_m t q 3 ht htn (by omega)) ?_) | (refine is_f 12 ?_; refine r_92fba5 (next_m t (adv t q) 3 ht htn (by omega)) ?_) | (refine is_f 19 ?_; refine r_e7cc0f (cS) ?_) | (refine is_f 20 ?_; refine r_92fba5 (cB) ?_) | (refine r_48b933 (fun hb => ?_) (fun hb => ?_) <;> (try (exfalso; omega))) | (refine awp_cond rfl (fun hb => ?_) (fun hb => ?_) <;> (try simp only [Bool.not_eq_true', Bool.not_eq_false', decide_eq_true_eq, decide_eq_false_iff_not] at hb) <;> (try (exfalso; omega)))))
      all_goals refine ⟨(i, adv t (adv t (adv t q)), acc ++ [smO1 t q (i + 1) ⟨true, 0, 0, 0, 0⟩]), ⟨hx1, (by simp; omega)⟩, ?_, (by show i < i + 1; omega)⟩
      all_goals show Le _ _ (smT t (i, adv t (adv t (adv t q)), acc ++ [smO1 t q (i + 1) ⟨true, 0, 0, 0, 0⟩]))
      all_goals unfold smT
      all_goals dsimp only
      all_goals refine Le.mk [(0, 0), (1, 4)] [] rfl (by (repeat' (first | exact le_nil | refine le_na ?_ | refine le_r ?_ rfl rfl | refine le_int ?_ (by omega) rfl | refine le_ow ?_ rfl rfl | refine le_pt ?_ rfl rfl | refine le_fz ?_ rfl q_bf1c9 rfl rfl | refine le_sv ?_ rfl rfl | refine le_ol ?_ rfl rfl | refine le_ag ?_ ?_ rfl | refine le_cl ?_ ?_ rfl | refine cfl_pt ?_ rfl | refine cfl_r ?_ rfl | refine cfl_rp ?_ rfl | exact CfL.nil))) ?_ (fun g h => nomatch h)
      all_goals exact ⟨⟨_, rfl, .var _ _ _ (.cons _ _ _ _ (.r _) (.cons _ _ _ _ (.r _) .nil))⟩, ⟨_, rfl, by rw [← hE]; exact .row _ _ _⟩, trivial⟩
    · have hsm : smP t q (i + 1) = (smO1 t q (i + 1) (smC t (adv t (adv t (adv t q)))), adv t (adv t (adv t (adv t (adv t (adv t q)))))) := if_neg hb6
      rw [hsm] at hx1
      have hE := pcs_snoc acc (smO1 t q (i + 1) (smC t (adv t (adv t (adv t q)))))
      have cB := boolM_m t (adv t (adv t q)) 6 (by omega) (by omega) ht htn
      rw [show (decide (nx t (adv t (adv t q)) ((6 : Nat) : Int) = 1)) = false from decide_eq_false hb6] at cB
      have n4 := nx_range t (adv t (adv t (adv t q))) (show (1 : Int) ≤ 4 by omega)
      have n5 := nx_range t (adv t (adv t (adv t (adv t q)))) (show (1 : Int) ≤ 30 by omega)
      have n6 := nx_range t (adv t (adv t (adv t (adv t (adv t q))))) (show (1 : Int) ≤ 12 by omega)
      have hd : ((smD t (adv t (adv t (adv t q))) : Nat) : Int) = 1 + nx t (adv t (adv t (adv t q))) 4 := by unfold smD; omega
      have hw4 : IntKind.i64.wrap (1 + nx t (adv t (adv t (adv t q))) 4) = 1 + nx t (adv t (adv t (adv t q))) 4 := by rw [IntKind.wrap_i64]; omega
      have hw5 : IntKind.i64.wrap (nx t (adv t (adv t (adv t (adv t q)))) 30 - 15) = nx t (adv t (adv t (adv t (adv t q)))) 30 - 15 := by rw [IntKind.wrap_i64]; omega
      have hw6 : IntKind.i64.wrap (nx t (adv t (adv t (adv t (adv t q)))) 30 - 15 + nx t (adv t (adv t (adv t (adv t (adv t q))))) 12) = nx t (adv t (adv t (adv t (adv t q)))) 30 - 15 + nx t (adv t (adv t (adv t (adv t (adv t q))))) 12 := by rw [IntKind.wrap_i64]; omega
      have hB : B64 = 18446744073709551616 := rfl
      have o1 := rOf_m (1 + nx t (adv t (adv t (adv t q))) 4) (by unfold I64; omega)
      have o2 := rOf_m (nx t (adv t (adv t (adv t (adv t q)))) 30 - 15) (by unfold I64; omega)
      have o3 := rOf_m (nx t (adv t (adv t (adv t (adv t q)))) 30 - 15 + nx t (adv t (adv t (adv t (adv t (adv t q))))) 12) (by unfold I64; omega)
      have m1 := make_m (nx t (adv t (adv t (adv t (adv t q)))) 30 - 15) (smD t (adv t (adv t (adv t q)))) (by omega) (by omega) (by omega)
      have m2 := make_m (nx t (adv t (adv t (adv t (adv t q)))) 30 - 15 + nx t (adv t (adv t (adv t (adv t (adv t q))))) 12) (smD t (adv t (adv t (adv t q)))) (by omega) (by omega) (by omega)
      rw [hd] at m1 m2
      (repeat' (first | refine r_95e112 ?_ | (refine is_f 12 ?_; refine r_92fba5 (next_m t q 3 ht htn (by omega)) ?_) | (refine is_f 12 ?_; refine r_92fba5 (next_m t (adv t q) 3 ht htn (by omega)) ?_) | (refine is_f 19 ?_; refine r_e7cc0f (cS) ?_) | (refine is_f 20 ?_; refine r_92fba5 (cB) ?_) | (refine is_f 12 ?_; refine r_92fba5 (next_m t (adv t (adv t (adv t q))) 4 ht htn (by omega)) ?_) | (refine is_f 12 ?_; refine r_92fba5 (next_m t (adv t (adv t (adv t (adv t q)))) 30 ht htn (by omega)) ?_) | (refine is_f 12 ?_; refine r_92fba5 (next_m t (adv t (adv t (adv t (adv t (adv t q))))) 12 ht htn (by omega)) ?_) | (refine is_f 21 ?_; refine r_e7cc0f (o1) ?_) | (refine is_f 21 ?_; refine r_e7cc0f (o2) ?_) | (refine is_f 21 ?_; refine r_e7cc0f (o3) ?_) | (refine is_f 22 ?_; refine r_e7cc0f (m1) ?_) | (refine is_f 22 ?_; refine r_e7cc0f (m2) ?_) | (refine r_48b933 (fun hb => ?_) (fun hb => ?_) <;> (try (exfalso; omega))) | (refine awp_cond rfl (fun hb => ?_) (fun hb => ?_) <;> (try simp only [Bool.not_eq_true', Bool.not_eq_false', decide_eq_true_eq, decide_eq_false_iff_not] at hb) <;> (try (exfalso; omega)))))
      all_goals refine ⟨(i, adv t (adv t (adv t (adv t (adv t (adv t q))))), acc ++ [smO1 t q (i + 1) (smC t (adv t (adv t (adv t q))))]), ⟨hx1, (by simp; omega)⟩, ?_, (by show i < i + 1; omega)⟩
      all_goals show Le _ _ (smT t (i, adv t (adv t (adv t (adv t (adv t (adv t q))))), acc ++ [smO1 t q (i + 1) (smC t (adv t (adv t (adv t q))))]))
      all_goals unfold smT
      all_goals dsimp only
      all_goals refine Le.mk [(0, 0), (1, 7)] [] rfl (by (repeat' (first | exact le_nil | refine le_na ?_ | refine le_r ?_ rfl rfl | refine le_int ?_ (by omega) rfl | refine le_ow ?_ rfl rfl | refine le_pt ?_ rfl rfl | refine le_fz ?_ rfl q_bf1c9 rfl rfl | refine le_sv ?_ rfl rfl | refine le_ol ?_ rfl rfl | refine le_ag ?_ ?_ rfl | refine le_cl ?_ ?_ rfl | refine cfl_pt ?_ rfl | refine cfl_r ?_ rfl | refine cfl_rp ?_ rfl | exact CfL.nil))) ?_ (fun g h => nomatch h)
      all_goals exact ⟨⟨_, rfl, .var _ _ _ (.cons _ _ _ _ (.r _) (.cons _ _ _ _ (.r _) .nil))⟩, ⟨_, rfl, by rw [← hE]; exact .row _ _ _⟩, trivial⟩
end Go.Proofs.YtibedaeefnjjlaaGreat

/- Chapter 21, plain: what the law's pieces are. No conditions. -/
namespace Go.Proofs.YtibedaeefnjjlaaGreat
open Go.RowKit Go.Ab Go.Wd
set_option linter.unusedVariables false
set_option linter.unusedSimpArgs false

/-- A cone of small fractions. -/
def SCn (c : Cn) : Prop := c = ⟨true, 0, 0, 0, 0⟩ ∨ (c.o = false ∧ VS c.p c.q ∧ VS c.r c.s ∧ c.p * c.s ≤ c.r * c.q)
theorem SCn.ok {c : Cn} (h : SCn c) : c.ok := by
  rcases h with rfl | ⟨h1, h2, h3, h4⟩
  · exact .inl ⟨rfl, rfl, rfl, rfl, rfl⟩
  · exact .inr ⟨h1, h2.1, h3.1, h4⟩
theorem mkQ_VS (m : Int) (d : Nat) (hd : 0 < d) (hm : m.natAbs < B64) (hd2 : d < B64) : VS (mkQ m d).1 (mkQ m d).2 := by
  obtain ⟨h1, h2, h3, h4, h5⟩ := mkQ_mul m d hd
  exact ⟨⟨h2, B64_N127 (by omega), B64_N127 (by omega), h5⟩, by omega, by omega⟩
theorem smC_ok (t : List Int) (q : Nat) : SCn (smC t q) := by
  have n4 := nx_range t q (show (1 : Int) ≤ 4 by omega)
  have n5 := nx_range t (adv t q) (show (1 : Int) ≤ 30 by omega)
  have n6 := nx_range t (adv t (adv t q)) (show (1 : Int) ≤ 12 by omega)
  have hB : B64 = 18446744073709551616 := rfl
  have hd : 0 < smD t q ∧ smD t q ≤ 4 := by unfold smD; omega
  exact .inr ⟨rfl, mkQ_VS _ _ hd.1 (by omega) (by omega), mkQ_VS _ _ hd.1 (by omega) (by omega), mkQ_le _ _ _ hd.1 (by omega)⟩
/-- What is said of the law's pieces. -/
structure SmOk (l : List Pc) : Prop where
  c : ∀ x ∈ l, SCn x.c
  ix : ∀ x ∈ l, 0 ≤ x.ix ∧ x.ix < 1000
  ky : ∀ x ∈ l, 0 ≤ x.ky ∧ x.ky < 3
  nd : (l.map Pc.ix).Nodup
  len : l.length ≤ 13
theorem SmOk.pc {l : List Pc} (h : SmOk l) : PcOk l := ⟨fun x hx => (h.c x hx).ok, fun x hx => (h.ix x hx).1, h.nd⟩
theorem smG_ok (t : List Int) : ∀ (i q : Nat) (acc : List Pc), (∀ x ∈ acc, SCn x.c ∧ (3 * (i : Int) + 3 ≤ x.ix ∧ x.ix < 1000) ∧ 0 ≤ x.ky ∧ x.ky < 3) → (acc.map Pc.ix).Nodup → acc.length + i ≤ 13 → SmOk (smG t i q acc).1
  | 0, q, acc, h, hn, hl => ⟨fun x hx => (h x hx).1, fun x hx => by have := (h x hx).2.1; omega, fun x hx => (h x hx).2.2, hn, (by show acc.length ≤ 13; omega)⟩
  | i + 1, q, acc, h, hn, hl => by
    rw [smG]
    have n1 := nx_range t q (show (1 : Int) ≤ 3 by omega)
    have n2 := nx_range t (adv t q) (show (1 : Int) ≤ 3 by omega)
    have hx : SCn (smP t q (i + 1)).1.c ∧ (smP t q (i + 1)).1.ix = 3 * ((i + 1 : Nat) : Int) + nx t q 3 ∧ (smP t q (i + 1)).1.ky = nx t (adv t q) 3 := by
      unfold smP
      split
      · exact ⟨.inl rfl, rfl, rfl⟩
      · exact ⟨smC_ok _ _, rfl, rfl⟩
    generalize smP t q (i + 1) = X at *
    obtain ⟨x1, x2, x3⟩ := hx
    refine smG_ok t i X.2 (acc ++ [X.1]) (fun x hx => ?_) ?_ (by simp; omega)
    · rcases List.mem_append.1 hx with hx | hx
      · have := h x hx; exact ⟨this.1, by have := this.2.1; omega, this.2.2⟩
      · rw [List.mem_singleton] at hx; subst hx; exact ⟨x1, by omega, by omega⟩
    · rw [List.map_append, List.nodup_append]
      refine ⟨hn, by simp, fun a ha b hb => ?_⟩
      simp at hb
      subst hb
      obtain ⟨y, hy, rfl⟩ := List.mem_map.1 ha
      have := (h y hy).2.1
      omega
theorem smL_ok (t : List Int) (k : Nat) : SmOk (smL t k).1 := by
  have h1 := nx_range t k (show (1 : Int) ≤ 14 by omega)
  exact smG_ok t _ _ [] (fun x hx => nomatch hx) .nil (by simp; omega)
end Go.Proofs.YtibedaeefnjjlaaGreat

/- Chapter 21, plain: the groups cover the pieces, and are as few as can be. Conditions: small pieces. -/
namespace Go.Proofs.YtibedaeefnjjlaaGreat
open Go.RowKit Go.Ab Go.Wd
set_option linter.unusedVariables false
set_option linter.unusedSimpArgs false

/-- The groups of pieces. -/
def grs (l : List Pc) : List Gr := (sortP l).foldl jn []
theorem grs_inv {l : List Pc} (h : SmOk l) : GInv (sortP l) (grs l) := gInv h.pc
theorem sc_meet {a b c : Cn} (ha : SCn a) (hb : SCn b) (h : meetC a b = some c) : SCn c := by
  unfold meetC at h
  split at h
  · injection h with h; subst h; exact hb
  · split at h
    · injection h with h; subst h; exact ha
    · rename_i h1 h2
      split at h
      · rename_i h3
        injection h with h
        subst h
        rcases ha with rfl | ⟨_, a1, a2, a3⟩
        · exact absurd rfl h1
        · rcases hb with rfl | ⟨_, b1, b2, b3⟩
          · exact absurd rfl h2
          · exact .inr ⟨rfl, mLo_VS a1 b1, mHi_VS a2 b2, h3⟩
      · cases h
theorem sc_fold : ∀ (s : List Pc) (gs : List Gr), (∀ x ∈ s, SCn x.c) → (∀ g ∈ gs, SCn g.c) → ∀ g ∈ s.foldl jn gs, SCn g.c
  | [], gs, _, h => h
  | x :: s, gs, hs, h => by
    have hx := hs x (List.mem_cons_self ..)
    refine sc_fold s (jn gs x) (fun y hy => hs y (List.mem_cons_of_mem _ hy)) ?_
    have hn : ∀ q ∈ gs ++ [newG x], SCn q.c := fun q hq => by
      rcases List.mem_append.1 hq with hq | hq
      · exact h q hq
      · rw [List.mem_singleton] at hq; subst hq; exact hx
    rcases List.eq_nil_or_concat gs with rfl | ⟨gs', g', rfl⟩
    · rw [jn_nil]; exact hn
    · rw [List.concat_eq_append] at *
      rw [jn_snoc]
      split
      · rename_i g2 hg2
        obtain ⟨c, hc, hk, rfl⟩ := jnTo_some hg2
        intro q hq
        rcases List.mem_append.1 hq with hq | hq
        · exact h q (List.mem_append_left _ hq)
        · rw [List.mem_singleton] at hq; subst hq
          exact sc_meet (h g' (by simp)) hx hc
      · exact hn
theorem grs_sc {l : List Pc} (h : SmOk l) : ∀ g ∈ grs l, SCn g.c :=
  sc_fold _ _ (fun x hx => h.c x ((sortP_perm l).mem_iff.1 hx)) (fun g hg => nomatch hg)
theorem SCn.pos {c : Cn} (h : SCn c) (ho : c.o = false) : 0 < c.lo.2 ∧ 0 < c.hi.2 ∧ fle c.lo c.hi := h.ok.pos ho
theorem grs_sub {l : List Pc} (h : SmOk l) {x : Pc} (hx : x ∈ l) {g : Gr} (hg : g ∈ grs l) (hi : x.ix ∈ g.ss) : g.ky = x.ky ∧ subC g.c x.c :=
  (grs_inv h).sub g hg x ((sortP_perm l).mem_iff.2 hx) hi
theorem grs_len {l : List Pc} : (grs l).length ≤ l.length := by
  have := jn_len (sortP l) []
  rw [(sortP_perm l).length_eq] at this
  show ((sortP l).foldl jn []).length ≤ _
  simpa using this
theorem vr_eq {p q r s : Int} (h1 : VR p q) (h2 : VR r s) (h : p * s = r * q) : p = r ∧ q = s := by
  obtain ⟨a1, _, _, a2⟩ := h1
  obtain ⟨b1, _, _, b2⟩ := h2
  obtain ⟨q, rfl⟩ : ∃ n : Nat, q = (n : Int) := ⟨q.toNat, by omega⟩
  obtain ⟨s, rfl⟩ : ∃ n : Nat, s = (n : Int) := ⟨s.toNat, by omega⟩
  simp only [Int.natAbs_natCast] at a2 b2
  have hn : p.natAbs * s = r.natAbs * q := by
    have := congrArg Int.natAbs h
    rwa [Int.natAbs_mul, Int.natAbs_mul, Int.natAbs_natCast, Int.natAbs_natCast] at this
  have d1 : q ∣ s := by
    have : q ∣ p.natAbs * s := ⟨r.natAbs, by rw [hn, Nat.mul_comm]⟩
    exact (Nat.Coprime.dvd_of_dvd_mul_left (Nat.Coprime.symm a2) this)
  have d2 : s ∣ q := by
    have : s ∣ r.natAbs * q := ⟨p.natAbs, by rw [← hn, Nat.mul_comm]⟩
    exact (Nat.Coprime.dvd_of_dvd_mul_left (Nat.Coprime.symm b2) this)
  have e := Nat.dvd_antisymm d1 d2
  subst e
  exact ⟨Int.eq_of_mul_eq_mul_right (by omega) h, rfl⟩
/-- The groups of one key. -/
def gk (l : List Pc) (k : Int) : List Gr := (grs l).filter fun g => decide (g.ky = k)
def cand (k : Int) (j : Nat) (la : Int × Int) (x : Pc) : Prop := x.ky = k ∧ x.c.o = false ∧ (j = 0 ∨ flt la x.c.lo)
def LastOk (l : List Pc) (k : Int) (j : Nat) (la : Int × Int) : Prop := j ≤ (gk l k).length ∧ (0 < j → ∃ g, (gk l k)[j - 1]? = some g ∧ g.c.o = false ∧ la = g.c.hi)
theorem gk_mem {l : List Pc} {k : Int} {g : Gr} : g ∈ gk l k ↔ g ∈ grs l ∧ g.ky = k := by unfold gk; simp
theorem gk_ap {l : List Pc} (h : SmOk l) (k : Int) {i j : Nat} {g g' : Gr} (hi : (gk l k)[i]? = some g) (hj : (gk l k)[j]? = some g') (hij : i < j) :
    g.c.o = false ∧ g'.c.o = false ∧ ∀ x ∈ l, x.ix ∈ g'.ss → x.c.o = false ∧ flt g.c.hi x.c.lo := by
  have hp : (gk l k).Pairwise _ := (grs_inv h).ap.filter _
  rw [List.pairwise_iff_getElem] at hp
  obtain ⟨h1, e1⟩ := List.getElem?_eq_some_iff.1 hi
  obtain ⟨h2, e2⟩ := List.getElem?_eq_some_iff.1 hj
  have := hp i j h1 h2 hij
  rw [e1, e2] at this
  have k1 := (gk_mem.1 (List.mem_of_getElem? hi)).2
  have k2 := (gk_mem.1 (List.mem_of_getElem? hj)).2
  obtain ⟨t1, t2, t3⟩ := this.2 (by omega)
  exact ⟨t1, t2, fun x hx hxi => t3 x ((sortP_perm l).mem_iff.2 hx) hxi⟩
theorem gk_of {l : List Pc} (h : SmOk l) {x : Pc} (hx : x ∈ l) : ∃ (i : Nat) (g : Gr), (gk l x.ky)[i]? = some g ∧ x.ix ∈ g.ss := by
  have hm : x.ix ∈ ((grs l).map Gr.ss).flatten := by rw [(grs_inv h).fl]; exact List.mem_map_of_mem ((sortP_perm l).mem_iff.2 hx)
  obtain ⟨s, hs, hxs⟩ := List.mem_flatten.1 hm
  obtain ⟨g, hg, rfl⟩ := List.mem_map.1 hs
  have := gk_mem.2 ⟨hg, (grs_sub h hx hg hxs).1⟩
  obtain ⟨i, hi⟩ := List.mem_iff_getElem?.1 this
  exact ⟨i, g, hi, hxs⟩
theorem gk_hi {l : List Pc} (h : SmOk l) {k : Int} {g : Gr} (hg : g ∈ gk l k) (ho : g.c.o = false) : ∃ x ∈ l, x.ix ∈ g.ss ∧ x.ky = k ∧ x.c.o = false ∧ x.c.hi = g.c.hi := by
  obtain ⟨hg1, hg2⟩ := gk_mem.1 hg
  obtain ⟨x, hx, h1, h2, h3⟩ := (grs_inv h).hi g hg1 ho
  have hx' := (sortP_perm l).mem_iff.1 hx
  exact ⟨x, hx', h1, by rw [← (grs_sub h hx' hg1 h1).1, hg2], h2, h3⟩
theorem gk_lo {l : List Pc} (h : SmOk l) {k : Int} {g : Gr} (hg : g ∈ gk l k) (ho : g.c.o = false) : ∃ x ∈ l, x.ix ∈ g.ss ∧ x.ky = k ∧ x.c.o = false ∧ x.c.lo = g.c.lo := by
  obtain ⟨hg1, hg2⟩ := gk_mem.1 hg
  obtain ⟨x, hx, h1, h2, h3⟩ := (grs_inv h).lo g hg1 ho
  have hx' := (sortP_perm l).mem_iff.1 hx
  exact ⟨x, hx', h1, by rw [← (grs_sub h hx' hg1 h1).1, hg2], h2, h3⟩
theorem gk_lt {l : List Pc} (h : SmOk l) (k : Int) {i j : Nat} {g g' : Gr} (hi : (gk l k)[i]? = some g) (hj : (gk l k)[j]? = some g') (hij : i < j) : flt g.c.hi g'.c.lo := by
  obtain ⟨t1, t2, t3⟩ := gk_ap h k hi hj hij
  obtain ⟨y, hy, y1, y2, y3, y4⟩ := gk_lo h (List.mem_of_getElem? hj) t2
  have := (t3 y hy y1).2
  rwa [y4] at this
theorem gk_sc {l : List Pc} (h : SmOk l) {k : Int} {g : Gr} {i : Nat} (hi : (gk l k)[i]? = some g) : SCn g.c := grs_sc h g (gk_mem.1 (List.mem_of_getElem? hi)).1
/-- A piece that is best of those left has the upper end of the next group. -/
theorem least_step {l : List Pc} (h : SmOk l) {k : Int} {j : Nat} {la : Int × Int} (hl : LastOk l k j la) {x : Pc} (hx : x ∈ l) (hc : cand k j la x) (hb : ∀ y ∈ l, cand k j la y → fle x.c.hi y.c.hi) : LastOk l k (j + 1) x.c.hi := by
  obtain ⟨c1, c2, c3⟩ := hc
  obtain ⟨i, g0, hi, hix⟩ := gk_of h hx
  rw [c1] at hi
  have hg0 := gk_sc h hi
  have hxs := h.c x hx
  have hsub := (grs_sub h hx (gk_mem.1 (List.mem_of_getElem? hi)).1 hix).2
  rcases hsub with hs | ⟨s1, _, s3, s4⟩
  · rw [c2] at hs; cases hs
  obtain ⟨p1, p2, p3⟩ := hg0.pos s1
  obtain ⟨q1, q2, q3⟩ := hxs.pos c2
  have hij : j ≤ i := by
    rcases Nat.lt_or_ge i j with hlt | hge
    · exfalso
      obtain ⟨g, e1, e2, e3⟩ := hl.2 (by omega)
      have hf : flt la x.c.lo := by rcases c3 with c3 | c3; omega; exact c3
      obtain ⟨r1, r2, r3⟩ := (gk_sc h e1).pos e2
      refine not_fle.2 hf ?_
      rw [e3]
      rcases Nat.lt_or_ge i (j - 1) with hlt2 | hge2
      · have := gk_lt h k hi e1 hlt2
        exact fle_trans q1 p1 r2 s3 (fle_trans p1 p2 r2 p3 (fle_trans p2 r1 r2 this.le r3))
      · have hee : i = j - 1 := by omega
        subst hee
        rw [hi] at e1
        injection e1 with e1
        subst e1
        exact fle_trans q1 p1 p2 s3 p3
    · exact hge
  obtain ⟨hil, _⟩ := List.getElem?_eq_some_iff.1 hi
  have hjl : j < (gk l k).length := by omega
  obtain ⟨g, hg⟩ : ∃ g, (gk l k)[j]? = some g := ⟨_, List.getElem?_eq_getElem hjl⟩
  have hgi : g.c.o = false ∧ fle g.c.hi x.c.hi := by
    rcases Nat.lt_or_ge j i with hlt | hge
    · obtain ⟨t1, t2, t3⟩ := gk_ap h k hg hi hlt
      obtain ⟨r1, r2, r3⟩ := (gk_sc h hg).pos t1
      exact ⟨t1, fle_trans r2 q1 q2 (t3 x hx hix).2.le q3⟩
    · have hee : i = j := by omega
      subst hee
      rw [hi] at hg
      injection hg with hg
      subst hg
      exact ⟨s1, s4⟩
  obtain ⟨y, hy, y1, y2, y3, y4⟩ := gk_hi h (List.mem_of_getElem? hg) hgi.1
  have hcy : cand k j la y := by
    refine ⟨y2, y3, ?_⟩
    rcases Nat.eq_zero_or_pos j with hj | hj
    · exact .inl hj
    · obtain ⟨g1, e1, e2, e3⟩ := hl.2 hj
      rw [e3]
      exact .inr ((gk_ap h k e1 hg (by omega)).2.2 y hy y1).2
  have hle := hb y hy hcy
  rw [y4] at hle
  refine ⟨hjl, fun _ => ⟨g, hg, hgi.1, ?_⟩⟩
  rcases hxs with hxo | ⟨_, v1, v2, _⟩
  · rw [hxo] at c2; cases c2
  · rcases gk_sc h hg with hgo | ⟨_, u1, u2, _⟩
    · rw [hgo] at hgi; cases hgi.1
    · have := vr_eq v2.1 u2.1 (Int.le_antisymm hle hgi.2)
      show (x.c.r, x.c.s) = (g.c.r, g.c.s)
      rw [this.1, this.2]
theorem least_end {l : List Pc} (h : SmOk l) {k : Int} {j : Nat} {la : Int × Int} (hl : LastOk l k j la) (hn : ∀ x ∈ l, ¬ cand k j la x) : (if l.any (fun x => decide (x.ky = k)) then max j 1 else j) = (gk l k).length := by
  have hne : gk l k ≠ [] ↔ l.any (fun x => decide (x.ky = k)) = true := by
    rw [List.any_eq_true]
    constructor
    · intro hne
      obtain ⟨g, hg⟩ := List.exists_mem_of_ne_nil _ hne
      obtain ⟨g1, g2⟩ := gk_mem.1 hg
      obtain ⟨x, hx, hi⟩ := (grs_inv h).ne g g1
      have hx' := (sortP_perm l).mem_iff.1 hx
      exact ⟨x, hx', by rw [decide_eq_true_eq, ← (grs_sub h hx' g1 hi).1, g2]⟩
    · rintro ⟨x, hx, hk⟩ hnil
      rw [decide_eq_true_eq] at hk
      obtain ⟨i, g, hg, _⟩ := gk_of h hx
      rw [hk, hnil] at hg
      simp at hg
  rcases Nat.lt_or_ge j (gk l k).length with hlt | hge
  · obtain ⟨g, hg⟩ : ∃ g, (gk l k)[j]? = some g := ⟨_, List.getElem?_eq_getElem hlt⟩
    have hgo : g.c.o = true := by
      rcases Bool.eq_false_or_eq_true g.c.o with ho | ho
      · exact ho
      · exfalso
        obtain ⟨y, hy, y1, y2, y3, y4⟩ := gk_hi h (List.mem_of_getElem? hg) ho
        refine hn y hy ⟨y2, y3, ?_⟩
        rcases Nat.eq_zero_or_pos j with hj | hj
        · exact .inl hj
        · obtain ⟨g1, e1, e2, e3⟩ := hl.2 hj
          rw [e3]
          exact .inr ((gk_ap h k e1 hg (by omega)).2.2 y hy y1).2
    have hj0 : j = 0 := by
      rcases Nat.eq_zero_or_pos j with hj | hj
      · exact hj
      · obtain ⟨g1, e1, e2, e3⟩ := hl.2 hj
        have := (gk_ap h k e1 hg (by omega)).2.1
        rw [hgo] at this; cases this
    subst hj0
    have h1 : (gk l k).length = 1 := by
      rcases Nat.lt_or_ge 1 (gk l k).length with h1 | h1
      · obtain ⟨g', hg'⟩ : ∃ g', (gk l k)[1]? = some g' := ⟨_, List.getElem?_eq_getElem h1⟩
        have := (gk_ap h k hg hg' (by omega)).1
        rw [hgo] at this; cases this
      · omega
    rw [if_pos (hne.1 fun hnil => by rw [hnil] at hlt; simp at hlt), h1]
    rfl
  · have he : j = (gk l k).length := Nat.le_antisymm hl.1 hge
    split
    · rename_i ha
      have : 0 < (gk l k).length := List.length_pos_iff.2 (hne.2 ha)
      omega
    · exact he
theorem cand_any {l : List Pc} {k : Int} {j : Nat} {la : Int × Int} {x : Pc} (hx : x ∈ l) (h : cand k j la x) : l.any (fun x => decide (x.ky = k)) = true :=
  List.any_eq_true.2 ⟨x, hx, decide_eq_true h.1⟩
theorem last_any {l : List Pc} (h : SmOk l) {k : Int} {j : Nat} {la : Int × Int} (hl : LastOk l k j la) (hj : 0 < j) : l.any (fun x => decide (x.ky = k)) = true := by
  obtain ⟨g, hg, ho, _⟩ := hl.2 hj
  obtain ⟨y, hy, y1, y2, y3, y4⟩ := gk_hi h (List.mem_of_getElem? hg) ho
  exact List.any_eq_true.2 ⟨y, hy, decide_eq_true y2⟩
end Go.Proofs.YtibedaeefnjjlaaGreat

/- Chapter 21: the law's sanity check. No conditions. --ext8 -/
namespace Go.Proofs.YtibedaeefnjjlaaGreat
open Go.RowKit Go.Ab Go.Wd
set_option maxRecDepth 100000
set_option linter.unusedVariables false
set_option linter.unusedSimpArgs false

def kn1 : Pc := ⟨5, 0, 0, ⟨false, 2, 1, 4, 1⟩⟩
def kn0 : Pc := ⟨0, 0, 0, ⟨false, 1, 1, 3, 1⟩⟩
theorem kn_sort : sortP [kn1, kn0] = [kn0, kn1] := by
  have hv : ∀ n : Int, 0 < n → n < 10 → VR n 1 := fun n h1 h2 => ⟨by omega, by unfold N127; omega, by decide, by simp⟩
  refine (sortP_eq (fun x hx => ?_) (by decide) (List.Perm.swap _ _ _) ?_).symm
  · simp only [List.mem_cons, List.not_mem_nil, or_false] at hx
    rcases hx with rfl | rfl
    · exact .inr ⟨rfl, hv 2 (by omega) (by omega), hv 4 (by omega) (by omega), by decide⟩
    · exact .inr ⟨rfl, hv 1 (by omega) (by omega), hv 3 (by omega) (by omega), by decide⟩
  · refine .cons (fun y hy => ?_) (.cons (fun y hy => nomatch hy) .nil)
    rw [List.mem_singleton] at hy
    subst hy
    decide
def knG : Gr := ⟨0, [0, 5], ⟨false, 2, 1, 3, 1⟩⟩
theorem kn_fold : [kn0, kn1].foldl jn [] = [knG] := by rfl
theorem kn_ch : chC knG.c = (2, 1) := by
  show btw 2 1 3 1 = (2, 1)
  unfold btw
  rw [if_neg (by decide), if_neg (by decide)]
  show (((posF 2 1 3 1).1 : Int), ((posF 2 1 3 1).2 : Int)) = _
  rw [posF, dif_pos (by simp)]
  rfl
theorem kn_z : sortZ knG.ss = [0, 5] := List.mergeSort_of_pairwise (by decide)
theorem kn_ok : PcOk [kn1, kn0] := by
  have hv : ∀ n : Int, 0 < n → n < 10 → VR n 1 := fun n h1 h2 => ⟨by omega, by unfold N127; omega, by decide, by simp⟩
  refine ⟨fun x hx => ?_, fun x hx => ?_, by decide⟩
  · simp only [List.mem_cons, List.not_mem_nil, or_false] at hx
    rcases hx with rfl | rfl
    · exact .inr ⟨rfl, hv 2 (by omega) (by omega), hv 4 (by omega) (by omega), by decide⟩
    · exact .inr ⟨rfl, hv 1 (by omega) (by omega), hv 3 (by omega) (by omega), by decide⟩
  · simp only [List.mem_cons, List.not_mem_nil, or_false] at hx
    rcases hx with rfl | rfl <;> decide
def knO : List RV := .v (.int .i64 0) :: ((rtVs 2 1).map RV.v ++ [.sl 1 (nums .i64 [0, 5])])
theorem kn_join : Meets Tryz.prog 15 [.r (.sl 24 [(pcVs kn1).map RV.v, (pcVs kn0).map RV.v])] [] (.tu [.fr 51 12 [knO], .r (.v (.int .i64 0))]) [] := by
  have h := join_m [kn1, kn0] (by decide) kn_ok
  rw [kn_sort, kn_fold] at h
  have e : grO knG = knO := by
    unfold grO knO
    rw [kn_ch, kn_z]; rfl
  rw [List.map_cons, List.map_nil, e] at h
  exact h
section
variable {env : Nat → AV} {H : Nat → Option Blk} {d : Option Tmp} {ty : TypeId} {pos : String} {af : Array Edge} {g : Option (Nat × Bool)} {u : TypeId} {x y : Operand}
theorem p_eqrt (p q : Int) (h1 : W4 p) (h2 : W4 q) (hx : evA env x = rt p q) (hy : evA env y = rt p q) : ReadOk Tryz.prog ⟨d, .binOp .eql 38 x y u, ty, pos, af, g⟩ env H [] (.r (.v (.bool true))) := by
  have h := p_eqR (H := H) (d := d) (ty := ty) (pos := pos) (af := af) (g := g) (u := u) (x := x) (y := y) (vs := rtVs p q) (us := rtVs p q) (by kernel_rfl) (eqr_rt (d := 9996) h1 h2 h1 h2) hx hy
  simpa using h
end
set_option maxHeartbeats 4000000 in
theorem known21_m : Meets Tryz.prog 13 [] [] (.r (.v (.bool true))) [] := by
  have o2 := rOfQ_m 2 (by unfold I64; omega)
  have o4 := rOfQ_m 4 (by unfold I64; omega)
  have o1 := rOfQ_m 1 (by unfold I64; omega)
  have o3 := rOfQ_m 3 (by unfold I64; omega)
  have cJ := kn_join
  refine fn_of Tryz.func13 rfl (Nat.le_of_ble_eq_true rfl) rfl rfl ?_
  (repeat' (first | (first | refine awp_halt 1 ?_ | refine awp_haltR 1 ?_) | refine r_2ec44d ?_ | refine r_d3423f ?_ | (refine r_48b933 (fun hb => ?_) (fun hb => ?_) <;> (try (exfalso; omega))) | (refine awp_cond rfl (fun hb => ?_) (fun hb => ?_) <;> (try simp only [Bool.not_eq_true', Bool.not_eq_false', decide_eq_true_eq, decide_eq_false_iff_not] at hb) <;> (try (exfalso; omega)))))
  refine halt ?_
  refine awp_seq ?_
  refine awp_text2 ⟨[(12, .r (.sl 24 [(pcVs kn1).map RV.v, (pcVs kn0).map RV.v]))], [], 0⟩ (l1 := [_, _, _, _, _, _, _, _, _]) (l2 := [_, _, _, _, _, _]) ?_ ?_
  · (repeat' (first | refine r_95e112 ?_ | (refine is_f 31 ?_; refine r_e7cc0f (o2) ?_) | (refine is_f 31 ?_; refine r_e7cc0f (o4) ?_) | (refine is_f 31 ?_; refine r_e7cc0f (o1) ?_) | (refine is_f 31 ?_; refine r_e7cc0f (o3) ?_) | (refine r_48b933 (fun hb => ?_) (fun hb => ?_) <;> (try (exfalso; omega))) | (refine awp_cond rfl (fun hb => ?_) (fun hb => ?_) <;> (try simp only [Bool.not_eq_true', Bool.not_eq_false', decide_eq_true_eq, decide_eq_false_iff_not] at hb) <;> (try (exfalso; omega)))))
    refine Le.mk [] [0] rfl ⟨?_, trivial⟩ hl_nil (fun g h => by
      rw [List.mem_singleton] at h
      subst h
      exact ⟨_, rfl⟩)
    first
      | exact .fzf 0 42 24 [(pcVs kn1).map RV.v, (pcVs kn0).map RV.v] rfl (by simp)
      | exact .fz 0 42 24 [(pcVs kn1).map RV.v, (pcVs kn0).map RV.v] rfl (by simp)
  · (repeat' (first | (first | refine awp_halt 2 ?_ | refine awp_haltR 2 ?_) | refine r_2ec44d ?_ | refine r_d3423f ?_ | (refine is_f 15 ?_; refine r_e7cc0f (cJ) ?_) | (refine r_48b933 (fun hb => ?_) (fun hb => ?_) <;> (try (exfalso; omega))) | (refine awp_cond rfl (fun hb => ?_) (fun hb => ?_) <;> (try simp only [Bool.not_eq_true', Bool.not_eq_false', decide_eq_true_eq, decide_eq_false_iff_not] at hb) <;> (try (exfalso; omega)))))
    refine halt ?_
    refine awp_le (T := ⟨[(1, .r (.sl 12 [knO])), (2, .r (.v (.int .i64 0)))], [], 0⟩) (by (refine Le.mk [] [0] q_5ec36 q_871b6 q_bbfed q_509a2)) ?_
    have w2 : W4 2 := by unfold W4; decide
    have w1 : W4 1 := by unfold W4; decide
    have hk1 : (((nums .i64 [0, 5]).length : Nat) : Int) = 2 := rfl
    have hk2 : ((([knO] : List (List RV)).length : Nat) : Int) = 1 := rfl
    have hk0 : ([knO] : List (List RV))[0]? = some knO := rfl
    (repeat' (first | (refine is_bin ?_; refine is_b_eql ?_; refine w_read rfl q_85eb5 (p_eqrt 2 1 w2 w1 rfl rfl) ?_) | (refine is_load ?_; refine w_read rfl q_85eb5 (p_loadNp rfl (Nat.le_of_ble_eq_true rfl)) ?_) | refine r_95e112 ?_ | (refine is_f 31 ?_; refine r_e7cc0f (o2) ?_) | (refine r_48b933 (fun hb => ?_) (fun hb => ?_) <;> (try (exfalso; omega))) | (refine awp_cond rfl (fun hb => ?_) (fun hb => ?_) <;> (try simp only [Bool.not_eq_true', Bool.not_eq_false', decide_eq_true_eq, decide_eq_false_iff_not] at hb) <;> (try (exfalso; omega)))))
    all_goals (first | (exfalso; omega) | exact ret1 [] (.bool rfl) rfl rfl rfl)
end Go.Proofs.YtibedaeefnjjlaaGreat
