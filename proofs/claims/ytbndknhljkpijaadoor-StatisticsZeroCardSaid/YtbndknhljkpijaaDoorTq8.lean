/- Chapter 12, the reference: Within, Same, Times, Values, Check, Join. Conditions: lengths, ranges. --ext3 -/
import Derived.Test.YtbndknhljkpijaaDoorTq7
namespace Go.Proofs.YtbndknhljkpijaaDoor
open Go.RowKit Go.Ab
set_option maxRecDepth 100000
set_option linter.unusedVariables false
set_option linter.unusedSimpArgs false

def Smp (l : List (Int × Int)) : Prop := ∀ i, i < l.length → I64 (l.getD i (0, 0)).1 ∧ I64 (l.getD i (0, 0)).2
def wthF (a b : List (Int × Int)) (eps : Int) (i : Nat) : Bool := decide ((a.getD i (0, 0)).1 = (b.getD i (0, 0)).1) && near (a.getD i (0, 0)).2 (b.getD i (0, 0)).2 eps
def wth (a b : List (Int × Int)) (eps : Int) : Bool := decide (a.length = b.length) && allR a.length (wthF a b eps)
theorem wth_len {a b : List (Int × Int)} {eps : Int} (h : a.length ≠ b.length) : false = wth a b eps := by unfold wth; rw [decide_eq_false h]; rfl
theorem wth_false {a b : List (Int × Int)} {eps : Int} (h : a.length = b.length) (i : Nat) (hi : i < a.length) (hf : wthF a b eps i = false) : false = wth a b eps := by
  unfold wth; rw [decide_eq_true h, ← allR_false i hi hf]; rfl
theorem wth_true {a b : List (Int × Int)} {eps : Int} (h : a.length = b.length) (hf : ∀ i, i < a.length → wthF a b eps i = true) : true = wth a b eps := by
  unfold wth; rw [decide_eq_true h, ← allR_true hf]; rfl
theorem refWithin_m (a b : List (Int × Int)) (eps : Int) (ha : Smp a) (hb0 : Smp b) (he : I64 eps) (hla : a.length ≤ 140737488355328) (hlb : b.length ≤ 140737488355328) : Meets Tryd.prog 28 [.r (.sl 2 (smps a)), .r (.sl 2 (smps b)), .r (.v (.int .i64 eps))] [] (.r (.v (.bool (wth a b eps)))) [] := by
  refine fn_of Tryd.func28 rfl (Nat.le_of_ble_eq_true rfl) rfl rfl ?_
  have ea : (smps a).length = a.length := smps_len a
  have eb : (smps b).length = b.length := smps_len b
  by_cases hab : a.length = b.length
  · (repeat' (first | refine r_9b4c86 ?_ | (refine r_9d2174 (fun hb => ?_) (fun hb => ?_) <;> (try (exfalso; omega))) | (refine awp_cond rfl (fun hb => ?_) (fun hb => ?_) <;> (try simp only [Bool.not_eq_true', Bool.not_eq_false', decide_eq_true_eq, decide_eq_false_iff_not] at hb) <;> (try (exfalso; omega)))))
    refine awp_loop' (fun k => ⟨[(0, .r (.sl 2 (smps a))), (1, .r (.sl 2 (smps b))), (2, .r (.v (.int .i64 eps))), (7, .r (.v (.int .i64 (k : Nat))))], [], 0⟩) (fun k => k ≤ a.length ∧ ∀ i, i < k → wthF a b eps i = true) (fun k => a.length - k) 0 ⟨Nat.zero_le _, fun i h => by omega⟩ (by (refine Le.mk [] [] rfl q_4bd83 q_5650d q_509a2)) fun k hk => ?_
    obtain ⟨hk, hall⟩ := hk
    rcases Nat.lt_or_ge k a.length with h | h
    · have hc := refNear_m (a.getD k (0, 0)).2 (b.getD k (0, 0)).2 eps (ha k h).2 (hb0 k (by omega)).2 he
      by_cases hT : (a.getD k (0, 0)).1 = (b.getD k (0, 0)).1
      · cases hN : near (a.getD k (0, 0)).2 (b.getD k (0, 0)).2 eps with
        | true =>
          rw [hN] at hc
          have hF : wthF a b eps k = true := by unfold wthF; rw [hN, decide_eq_true hT]; rfl
          (repeat' (first | refine r_9b4c86 ?_ | (refine is_f 44 ?_; refine r_74a3b0 (hc) ?_) | (refine r_9d2174 (fun hb => ?_) (fun hb => ?_) <;> (try (exfalso; omega))) | (refine awp_cond rfl (fun hb => ?_) (fun hb => ?_) <;> (try simp only [Bool.not_eq_true', Bool.not_eq_false', decide_eq_true_eq, decide_eq_false_iff_not] at hb) <;> (try (exfalso; omega)))))
          all_goals exact ⟨k + 1, ⟨h, fun i hi => if h2 : i < k then hall i h2 else (show i = k by omega) ▸ hF⟩, by (refine Le.mk [] [] rfl q_4bd83 q_5650d q_509a2), by omega⟩
        | false =>
          rw [hN] at hc
          have hF : wthF a b eps k = false := by unfold wthF; rw [hN]; simp
          (repeat' (first | refine r_9b4c86 ?_ | (refine is_f 44 ?_; refine r_74a3b0 (hc) ?_) | (refine r_9d2174 (fun hb => ?_) (fun hb => ?_) <;> (try (exfalso; omega))) | (refine awp_cond rfl (fun hb => ?_) (fun hb => ?_) <;> (try simp only [Bool.not_eq_true', Bool.not_eq_false', decide_eq_true_eq, decide_eq_false_iff_not] at hb) <;> (try (exfalso; omega)))))
          all_goals exact ret1 [] (.bool (wth_false hab k h hF)) rfl rfl rfl
      · have hF : wthF a b eps k = false := by unfold wthF; rw [decide_eq_false hT]; rfl
        (repeat' (first | refine r_9b4c86 ?_ | (refine is_f 44 ?_; refine r_74a3b0 (hc) ?_) | (refine r_9d2174 (fun hb => ?_) (fun hb => ?_) <;> (try (exfalso; omega))) | (refine awp_cond rfl (fun hb => ?_) (fun hb => ?_) <;> (try simp only [Bool.not_eq_true', Bool.not_eq_false', decide_eq_true_eq, decide_eq_false_iff_not] at hb) <;> (try (exfalso; omega)))))
        all_goals exact ret1 [] (.bool (wth_false hab k h hF)) rfl rfl rfl
    · (repeat' (first | refine r_9b4c86 ?_ | (refine r_9d2174 (fun hb => ?_) (fun hb => ?_) <;> (try (exfalso; omega))) | (refine awp_cond rfl (fun hb => ?_) (fun hb => ?_) <;> (try simp only [Bool.not_eq_true', Bool.not_eq_false', decide_eq_true_eq, decide_eq_false_iff_not] at hb) <;> (try (exfalso; omega)))))
      all_goals exact ret1 [] (.bool (wth_true hab fun i hi => hall i (by omega))) rfl rfl rfl
  · (repeat' (first | refine r_9b4c86 ?_ | (refine r_9d2174 (fun hb => ?_) (fun hb => ?_) <;> (try (exfalso; omega))) | (refine awp_cond rfl (fun hb => ?_) (fun hb => ?_) <;> (try simp only [Bool.not_eq_true', Bool.not_eq_false', decide_eq_true_eq, decide_eq_false_iff_not] at hb) <;> (try (exfalso; omega)))))
    all_goals exact ret1 [] (.bool (wth_len hab)) rfl rfl rfl
theorem I64_zero : I64 0 := by unfold I64; omega
theorem refSame12_m (a b : List (Int × Int)) (ha : Smp a) (hb0 : Smp b) (hla : a.length ≤ 140737488355328) (hlb : b.length ≤ 140737488355328) : Meets Tryd.prog 12 [.r (.sl 2 (smps a)), .r (.sl 2 (smps b))] [] (.r (.v (.bool (wth a b 0)))) [] := by
  refine fn_of Tryd.func12 rfl (Nat.le_of_ble_eq_true rfl) rfl rfl ?_
  (repeat' (first | refine r_9b4c86 ?_ | (refine is_f 28 ?_; refine r_74a3b0 (refWithin_m a b 0 ha hb0 I64_zero hla hlb) ?_) | (refine r_9d2174 (fun hb => ?_) (fun hb => ?_) <;> (try (exfalso; omega))) | (refine awp_cond rfl (fun hb => ?_) (fun hb => ?_) <;> (try simp only [Bool.not_eq_true', Bool.not_eq_false', decide_eq_true_eq, decide_eq_false_iff_not] at hb) <;> (try (exfalso; omega)))))
  all_goals exact ret1 [] (.bool rfl) rfl rfl rfl
theorem dst_self (a : Int) : dst a a = 0 := by unfold dst; rw [if_neg (by omega)]; omega
theorem wth_self (l : List (Int × Int)) : wth l l 0 = true :=
  (wth_true rfl fun i hi => by unfold wthF near; rw [dst_self]; simp).symm
def chkS (l : List (Int × Int)) : Int := if inc (l.map Prod.fst) then 0 else 7
theorem getD_map_fst (l : List (Int × Int)) (k : Nat) : (l.map Prod.fst).getD k 0 = (l.getD k (0, 0)).1 := by
  simp only [List.getD_eq_getElem?_getD, List.getElem?_map]
  cases l[k]? <;> rfl
/-- The reference's comparison of two lists of numbers. -/
def eqN (a b : List Int) : Bool := decide (a.length = b.length) && allR a.length fun i => decide (a.getD i 0 = b.getD i 0)
end Go.Proofs.YtbndknhljkpijaaDoor
