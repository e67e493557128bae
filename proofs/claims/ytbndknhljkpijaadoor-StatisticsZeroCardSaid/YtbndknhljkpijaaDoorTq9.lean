/- Chapter 12, the program: Times, Values, Check. Conditions: lengths. --ext4 -/
import Derived.Test.YtbndknhljkpijaaDoorTq8
import Derived.Test.YtbndknhljkpijaaDoorGB
namespace Go.Proofs.YtbndknhljkpijaaDoor
open Go.RowKit Go.Ab
set_option maxRecDepth 100000
set_option linter.unusedVariables false
set_option linter.unusedSimpArgs false

theorem times1_m (s : Int × Int) : Meets Tryd.prog 61 [.ag [.r (.v (.int .i64 s.1)), .r (.v (.int .i64 s.2))]] [] (.r (.v (.int .i64 s.1))) [] := by
  refine fn_of Tryd.func61 rfl (Nat.le_of_ble_eq_true rfl) rfl rfl ?_
  (repeat' (first | refine r_a5412e ?_ | (refine r_9d2174 (fun hb => ?_) (fun hb => ?_) <;> (try (exfalso; omega))) | (refine awp_cond rfl (fun hb => ?_) (fun hb => ?_) <;> (try simp only [Bool.not_eq_true', Bool.not_eq_false', decide_eq_true_eq, decide_eq_false_iff_not] at hb) <;> (try (exfalso; omega)))))
  all_goals exact ret1 [] (.r _) rfl rfl rfl
/-- The row while it is being filled. -/
def part (f : Int × Int → Int) (l : List (Int × Int)) (k : Nat) : List (List RV) := nums .i64 ((l.take k).map f) ++ List.replicate (l.length - k) [.v (.int .i64 0)]
theorem part_len (f : Int × Int → Int) (l : List (Int × Int)) (k : Nat) (h : k ≤ l.length) : (part f l k).length = l.length := by
  unfold part; rw [List.length_append, nums_len, List.length_map, List.length_take, List.length_replicate]; omega
theorem part_get (f : Int × Int → Int) (l : List (Int × Int)) (k : Nat) (h : k < l.length) : (part f l k)[k]? = some [.v (.int .i64 0)] := by
  unfold part
  rw [List.getElem?_append_right (by rw [nums_len, List.length_map, List.length_take]; omega), nums_len, List.length_map, List.length_take, Nat.min_eq_left (by omega), Nat.sub_self, show l.length - k = (l.length - (k + 1)) + 1 by omega, List.replicate_succ]
  rfl
theorem part_set (f : Int × Int → Int) (l : List (Int × Int)) (k : Nat) (h : k < l.length) : (part f l k).set k [.v (.int .i64 (f (l.getD k (0, 0))))] = part f l (k + 1) := by
  unfold part
  have hl : (nums .i64 ((l.take k).map f)).length = k := by rw [nums_len, List.length_map, List.length_take]; omega
  rw [List.set_append_right _ _ (by omega), hl, Nat.sub_self, show l.length - k = (l.length - (k + 1)) + 1 by omega, List.replicate_succ, List.set_cons_zero, take_succ_getD l k (0, 0) h, List.map_append, nums_append, List.append_assoc]
  rfl
def fldS (g : Nat) (f : Int × Int → Int) (l : List (Int × Int)) (k : Nat) : St :=
  ⟨[(1, .r (.v (.func (.func g) #[] #[]))), (5, .ow 0), (11, .r (.sl 2 (smps l))), (12, .r (.v (.int .i64 l.length))), (13, .r (.v (.int .i64 k)))], [(0, some (.row 2 1 (part f l k)))], 1⟩
theorem field_m (g : Nat) (f : Int × Int → Int) (hg : ∀ s, Meets Tryd.prog g [.ag [.r (.v (.int .i64 s.1)), .r (.v (.int .i64 s.2))]] [] (.r (.v (.int .i64 (f s)))) []) (hcb : callB Tryd.prog g = true) (l : List (Int × Int)) (hl : l.length ≤ 8796093022000) : Meets Tryd.prog 60 [.r (.sl 2 (smps l)), .r (.v (.func (.func g) #[] #[]))] [] (.fr 2 1 (nums .i64 (l.map f))) [] := by
  refine fn_of Tryd.func60 rfl (Nat.le_of_ble_eq_true rfl) rfl rfl ?_
  have hlen : (smps l).length = l.length := smps_len l
  have h00 : List.replicate (smps l).length (List.map RV.v [Value.int .i64 0]) = part f l 0 := by unfold part; rw [hlen]; rfl
  (repeat' (first | refine r_a5412e ?_ | (refine r_9d2174 (fun hb => ?_) (fun hb => ?_) <;> (try (exfalso; omega))) | (refine awp_cond rfl (fun hb => ?_) (fun hb => ?_) <;> (try simp only [Bool.not_eq_true', Bool.not_eq_false', decide_eq_true_eq, decide_eq_false_iff_not] at hb) <;> (try (exfalso; omega)))))
  refine awp_loop' (fldS g f l) (fun k => k ≤ l.length) (fun k => l.length - k) 0 (Nat.zero_le _) (by (refine Le.mk [(0,0)] [] rfl q_30dea q_5650d q_509a2)) fun k hk => ?_
  have hpl := part_len f l k hk
  by_cases hkl : k < l.length
  · have hG := part_get f l k hkl
    have hE := part_set f l k hkl
    have hc := hg (l.getD k (0, 0))
    (repeat' (first | refine r_a5412e ?_ | ((refine is_fv ?_; refine w_callC q_8bb23 [] _ _ (hc) q_2f365 q_7dd93 q_d0812 rfl rfl rfl q_85eb5 ?_); try dsimp only [AV.unfr, AV.unfrs, frsL, pairs, rdOf, @List.length_cons Blk, @List.length_nil Blk, @List.nil_append (Nat × Option Blk), @List.cons_append (Nat × Option Blk), @List.nil_append Blk, @List.cons_append Blk, Nat.add_zero, Nat.zero_add, Nat.reduceAdd]) | (refine r_9d2174 (fun hb => ?_) (fun hb => ?_) <;> (try (exfalso; omega))) | (refine awp_cond rfl (fun hb => ?_) (fun hb => ?_) <;> (try simp only [Bool.not_eq_true', Bool.not_eq_false', decide_eq_true_eq, decide_eq_false_iff_not] at hb) <;> (try (exfalso; omega)))))
    all_goals exact ⟨k + 1, by show k + 1 ≤ l.length; omega, by (refine Le.mk [(0,0)] [] rfl q_30dea q_5650d q_509a2), by show l.length - (k + 1) < l.length - k; omega⟩
  · have e : part f l k = nums .i64 (l.map f) := by unfold part; rw [List.take_of_length_le (by omega), show l.length - k = 0 by omega]; simp
    (repeat' (first | refine r_a5412e ?_ | (refine r_9d2174 (fun hb => ?_) (fun hb => ?_) <;> (try (exfalso; omega))) | (refine awp_cond rfl (fun hb => ?_) (fun hb => ?_) <;> (try simp only [Bool.not_eq_true', Bool.not_eq_false', decide_eq_true_eq, decide_eq_false_iff_not] at hb) <;> (try (exfalso; omega)))))
    all_goals (rw [← e]; exact ret1 [] (.fr 0 _ _ _ rfl) rfl rfl rfl)
theorem times12_m (l : List (Int × Int)) (hl : l.length ≤ 8796093022000) : Meets Tryd.prog 46 [.r (.sl 2 (smps l))] [] (.fr 2 1 (nums .i64 (l.map Prod.fst))) [] := by
  refine fn_of Tryd.func46 rfl (Nat.le_of_ble_eq_true rfl) rfl rfl ?_
  (repeat' (first | refine r_a5412e ?_ | (refine is_f 60 ?_; refine r_bb2b31 (field_m 61 Prod.fst times1_m (by kernel_rfl) l hl) ?_) | (refine r_9d2174 (fun hb => ?_) (fun hb => ?_) <;> (try (exfalso; omega))) | (refine awp_cond rfl (fun hb => ?_) (fun hb => ?_) <;> (try simp only [Bool.not_eq_true', Bool.not_eq_false', decide_eq_true_eq, decide_eq_false_iff_not] at hb) <;> (try (exfalso; omega)))))
  all_goals exact ret1 [] (.fr 0 _ _ _ rfl) rfl rfl rfl
theorem check12_m (l : List (Int × Int)) (hl : l.length ≤ 8796093022000) : Meets Tryd.prog 32 [.r (.sl 2 (smps l))] [] (.r (.v (.int .i64 (chkS l)))) [] := by
  refine fn_of Tryd.func32 rfl (Nat.le_of_ble_eq_true rfl) rfl rfl ?_
  have hc := inc_m (l.map Prod.fst) (by rw [List.length_map]; omega)
  cases hi : inc (l.map Prod.fst) with
  | true =>
    rw [hi] at hc
    have hr : (0 : Int) = chkS l := by unfold chkS; rw [hi]; rfl
    (repeat' (first | refine r_a5412e ?_ | (refine is_f 46 ?_; refine r_bb2b31 (times12_m l hl) ?_) | (refine is_f 45 ?_; refine r_0f4e57 (hc) ?_) | (refine r_9d2174 (fun hb => ?_) (fun hb => ?_) <;> (try (exfalso; omega))) | (refine awp_cond rfl (fun hb => ?_) (fun hb => ?_) <;> (try simp only [Bool.not_eq_true', Bool.not_eq_false', decide_eq_true_eq, decide_eq_false_iff_not] at hb) <;> (try (exfalso; omega)))))
    all_goals exact ret1 [] (.int hr) rfl rfl rfl
  | false =>
    rw [hi] at hc
    have hr : (7 : Int) = chkS l := by unfold chkS; rw [hi]; rfl
    (repeat' (first | refine r_a5412e ?_ | (refine is_f 46 ?_; refine r_bb2b31 (times12_m l hl) ?_) | (refine is_f 45 ?_; refine r_0f4e57 (hc) ?_) | (refine r_9d2174 (fun hb => ?_) (fun hb => ?_) <;> (try (exfalso; omega))) | (refine awp_cond rfl (fun hb => ?_) (fun hb => ?_) <;> (try simp only [Bool.not_eq_true', Bool.not_eq_false', decide_eq_true_eq, decide_eq_false_iff_not] at hb) <;> (try (exfalso; omega)))))
    all_goals exact ret1 [] (.int hr) rfl rfl rfl
end Go.Proofs.YtbndknhljkpijaaDoor
