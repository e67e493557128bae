/- The reference's words of a number, and their comparison. Conditions: ranges. --ext6 -/
import Derived.Test.YtbndknhljkpijaaDoorWd3
namespace Go.Proofs.YtbndknhljkpijaaDoor
open Go.RowKit Go.Ab Go.Wd
set_option maxRecDepth 100000
set_option linter.unusedVariables false
set_option linter.unusedSimpArgs false

/-- A whole number with a sign: four words. -/
def wd (b : Bool) (n : Nat) : AV := .ag [.r (.v (.bool b)), .r (.v (.int .u64 ((n % B64 : Nat) : Int))), .r (.v (.int .u64 ((n / B64 % B64 : Nat) : Int))), .r (.v (.int .u64 ((n / B64 / B64 % B64 : Nat) : Int))), .r (.v (.int .u64 ((n / B64 / B64 / B64 % B64 : Nat) : Int)))]
theorem of_m (b : Bool) (n : Nat) (hn : n < B64 ^ 4) : Meets Tryd.prog 27 [wd b n] [] (.r (.sl 1 (wns (tw n)))) [] := by
  have ht : trim (ws n 4) = tw n := by rw [trim_tw _ (ws_wds 4 n), val_ws 4 n hn]
  rw [← ht]
  refine Meets.freeze (T := 28) ?_
  refine fn_of Tryd.func27 rfl (Nat.le_of_ble_eq_true rfl) rfl rfl ?_
  have hso : List.take 4 (List.drop 1 [AV.r (.v (.bool b)), .r (.v (.int .u64 ((n % B64 : Nat) : Int))), .r (.v (.int .u64 ((n / B64 % B64 : Nat) : Int))), .r (.v (.int .u64 ((n / B64 / B64 % B64 : Nat) : Int))), .r (.v (.int .u64 ((n / B64 / B64 / B64 % B64 : Nat) : Int)))]) = (wns (ws n 4)).flatten.map .r := rfl
  have h1 : ∀ e ∈ wns (ws n 4), e.length = 1 := by
    intro e he
    unfold wns at he
    obtain ⟨a, _, rfl⟩ := List.mem_map.1 he
    rfl
  have h2 : (wns (ws n 4)).length = 4 := rfl
  have h3 : ([] ++ wns (ws n 4)) = wns (ws n 4) := rfl
  (repeat' (first | refine r_4eabd4 ?_ | (refine is_f 41 ?_; refine r_e0b6b3 (trim_o (ws n 4) (by rw [ws_len]; omega)) ?_) | (refine r_48b933 (fun hb => ?_) (fun hb => ?_) <;> (try (exfalso; omega))) | (refine awp_cond rfl (fun hb => ?_) (fun hb => ?_) <;> (try simp only [Bool.not_eq_true', Bool.not_eq_false', decide_eq_true_eq, decide_eq_false_iff_not] at hb) <;> (try (exfalso; omega)))))
  all_goals (first | exact ret1 [] (.fr 1 _ _ _ rfl) rfl rfl rfl | exact ret1 [] (.fr 2 _ _ _ rfl) rfl rfl rfl | exact ret1 [] (.fr 3 _ _ _ rfl) rfl rfl rfl)
/-- The comparison of numbers. -/
def cmpN (m n : Nat) : Int := if m < n then -1 else if n < m then 1 else 0
theorem val_split (l : List Nat) (i : Nat) (h : i < l.length) : val l = val (l.take i) + B64 ^ i * (l.getD i 0 + B64 * val (l.drop (i + 1))) := by
  have h1 := val_append (l.take i) (l.drop i)
  rw [List.take_append_drop, val_drop l i h, List.length_take, Nat.min_eq_left (Nat.le_of_lt h)] at h1
  exact h1
theorem val_take_lt (l : List Nat) (hw : Wds l) (i : Nat) (h : i ≤ l.length) : val (l.take i) < B64 ^ i := by
  have h1 := val_lt (l.take i) (fun a ha => hw a (List.mem_of_mem_take ha))
  rw [List.length_take, Nat.min_eq_left h] at h1
  exact h1
theorem cmp_word {x y a b s t i v : Nat} (hs : s < B64 ^ i) (ht : t < B64 ^ i) (hx : x = s + B64 ^ i * (a + B64 * v)) (hy : y = t + B64 ^ i * (b + B64 * v)) (hab : a < b) : x < y := by
  have : B64 ^ i * (a + B64 * v + 1) ≤ B64 ^ i * (b + B64 * v) := Nat.mul_le_mul (Nat.le_refl _) (by omega)
  rw [Nat.mul_add] at this
  omega
theorem tw_len_cmp {m n : Nat} (h : (tw m).length < (tw n).length) : m < n := by
  have h1 := tw_len_lt _ m (Nat.le_refl _)
  rcases Nat.lt_or_ge m n with h' | h'
  · exact h'
  · have := tw_len (tw m).length n (Nat.lt_of_le_of_lt h' h1)
    omega
def cpS (m n : Nat) (z : Int) : St := ⟨[(0, .r (.sl 1 (wns (tw m)))), (1, .r (.sl 1 (wns (tw n)))), (5, .r (.v (.int .i64 z)))], [], 0⟩
theorem compare_m (m n : Nat) (hm : (tw m).length ≤ 1000000) (hn : (tw n).length ≤ 1000000) : Meets Tryd.prog 29 [.r (.sl 1 (wns (tw m))), .r (.sl 1 (wns (tw n)))] [] (.r (.v (.int .i64 (cmpN m n)))) [] := by
  refine fn_of Tryd.func29 rfl (Nat.le_of_ble_eq_true rfl) rfl rfl ?_
  have l1 := wns_len (tw m)
  have l2 := wns_len (tw n)
  have c1 : (tw m).length < (tw n).length → (-1 : Int) = cmpN m n := fun h => by
    have := tw_len_cmp h
    unfold cmpN; rw [if_pos this]
  have c2 : (tw n).length < (tw m).length → (1 : Int) = cmpN m n := fun h => by
    have := tw_len_cmp h
    unfold cmpN; rw [if_neg (by omega), if_pos this]
  (repeat' (first | refine r_4eabd4 ?_ | (refine r_48b933 (fun hb => ?_) (fun hb => ?_) <;> (try (exfalso; omega))) | (refine awp_cond rfl (fun hb => ?_) (fun hb => ?_) <;> (try simp only [Bool.not_eq_true', Bool.not_eq_false', decide_eq_true_eq, decide_eq_false_iff_not] at hb) <;> (try (exfalso; omega)))))
  all_goals (first | (exfalso; omega) | exact ret1 [] (.int (c1 (by omega))) rfl rfl rfl | exact ret1 [] (.int (c2 (by omega))) rfl rfl rfl | skip)
  have hlen : (tw m).length = (tw n).length := by omega
  have e1 := val_tw m
  have e2 := val_tw n
  have w1 := tw_wds m
  have w2 := tw_wds n
  refine awp_loop' (fun j : Nat => cpS m n ((j : Int) - 1)) (fun j => j ≤ (tw m).length ∧ (tw m).drop j = (tw n).drop j) (fun j => j) (tw m).length ⟨Nat.le_refl _, by rw [List.drop_length, hlen, List.drop_length]⟩ (by (refine Le.mk [] [] q_5ec36 q_43730 q_16bb5 q_509a2)) fun j hj => ?_
  obtain ⟨hj1, hj2⟩ := hj
  cases j with
  | zero =>
    change awp _ _ _ _ _ (cpS m n (-1))
    have : m = n := by
      rw [List.drop_zero, List.drop_zero] at hj2
      rw [← e1, ← e2, hj2]
    have c3 : (0 : Int) = cmpN m n := by unfold cmpN; rw [if_neg (by omega), if_neg (by omega)]
    (repeat' (first | refine r_4eabd4 ?_ | (refine r_48b933 (fun hb => ?_) (fun hb => ?_) <;> (try (exfalso; omega))) | (refine awp_cond rfl (fun hb => ?_) (fun hb => ?_) <;> (try simp only [Bool.not_eq_true', Bool.not_eq_false', decide_eq_true_eq, decide_eq_false_iff_not] at hb) <;> (try (exfalso; omega)))))
    all_goals (first | (exfalso; omega) | exact ret1 [] (.int c3) rfl rfl rfl)
  | succ i =>
    have hi : i < (tw m).length := hj1
    have hi2 : i < (tw n).length := by omega
    have g1 := wns_get (l := tw m) hi
    have g2 := wns_get (l := tw n) hi2
    have v1 := val_split (tw m) i hi
    have v2 := val_split (tw n) i hi2
    have t1 := val_take_lt (tw m) w1 i (by omega)
    have t2 := val_take_lt (tw n) w2 i (by omega)
    rw [e1] at v1
    rw [e2, ← hj2] at v2
    have hw : IntKind.i64.wrap ((i : Int) - 1) = ((i : Int) - 1) := by rw [IntKind.wrap_i64]; omega
    have hc : (((i + 1 : Nat) : Int) - 1) = (i : Int) := by omega
    change awp _ _ _ _ _ (cpS m n (((i + 1 : Nat) : Int) - 1))
    rw [hc]
    have d1 : (tw m).drop i = (tw m).getD i 0 :: (tw m).drop (i + 1) := by
      rw [List.drop_eq_getElem_cons hi]; simp [hi]
    have d2 : (tw n).drop i = (tw n).getD i 0 :: (tw n).drop (i + 1) := by
      rw [List.drop_eq_getElem_cons hi2]; simp [hi2]
    have lt1 : (tw m).getD i 0 < (tw n).getD i 0 → (-1 : Int) = cmpN m n := fun h => by
      have := cmp_word t1 t2 v1 v2 h
      unfold cmpN; rw [if_pos this]
    have lt2 : (tw n).getD i 0 < (tw m).getD i 0 → (1 : Int) = cmpN m n := fun h => by
      have := cmp_word t2 t1 v2 v1 h
      unfold cmpN; rw [if_neg (by omega), if_pos this]
    have same : (tw m).getD i 0 = (tw n).getD i 0 → (tw m).drop i = (tw n).drop i := fun h => by rw [d1, d2, h, hj2]
    clear v1 v2 t1 t2 e1 e2 d1 d2 w1 w2
    generalize (tw m).getD i 0 = a at *
    generalize (tw n).getD i 0 = b at *
    (repeat' (first | refine r_4eabd4 ?_ | (refine r_48b933 (fun hb => ?_) (fun hb => ?_) <;> (try (exfalso; omega))) | (refine awp_cond rfl (fun hb => ?_) (fun hb => ?_) <;> (try simp only [Bool.not_eq_true', Bool.not_eq_false', decide_eq_true_eq, decide_eq_false_iff_not] at hb) <;> (try (exfalso; omega)))))
    all_goals (first | (exfalso; omega) | exact ret1 [] (.int (lt1 (by omega))) rfl rfl rfl | exact ret1 [] (.int (lt2 (by omega))) rfl rfl rfl | exact ⟨i, ⟨by omega, same (by omega)⟩, by show Le _ _ (cpS m n ((i : Int) - 1)); (refine Le.mk [] [] q_5ec36 q_43730 q_16bb5 q_509a2), by show i < i + 1; omega⟩)
end Go.Proofs.YtbndknhljkpijaaDoor
