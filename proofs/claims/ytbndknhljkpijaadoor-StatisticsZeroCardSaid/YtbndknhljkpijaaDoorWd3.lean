/- Lists of words: trim, of, compare of the reference. Conditions: lengths, ranges. --ext6 -/
import Derived.Test.YtbndknhljkpijaaDoorWd2
import Derived.Test.YtbndknhljkpijaaDoorAb27
import Derived.Test.YtbndknhljkpijaaDoorUn
namespace Go.Proofs.YtbndknhljkpijaaDoor
open Go.RowKit Go.Ab Go.Wd
set_option maxRecDepth 100000
set_option linter.unusedVariables false
set_option linter.unusedSimpArgs false

/-- Words as elements of a slice. -/
def wns (l : List Nat) : List (List RV) := l.map fun (a : Nat) => [.v (.int .u64 (a : Int))]
theorem wns_len (l : List Nat) : (wns l).length = l.length := by unfold wns; simp
theorem wns_get {l : List Nat} {i : Nat} (h : i < l.length) : (wns l)[i]? = some [.v (.int .u64 (l.getD i 0 : Nat))] := by unfold wns; simp [h]
theorem wns_take (l : List Nat) (k : Nat) : (wns l).take k = wns (l.take k) := by unfold wns; rw [List.map_take]
theorem wns_append (l m : List Nat) : wns (l ++ m) = wns l ++ wns m := by unfold wns; rw [List.map_append]
theorem wns_set (l : List Nat) (i v : Nat) : (wns l).set i [.v (.int .u64 (v : Int))] = wns (l.set i v) := by unfold wns; rw [List.map_set]
theorem i64_len1 (n : Nat) (h : n < 9223372036854775808) : IntKind.i64.wrap (((n + 1 : Nat) : Int) - 1) = (n : Int) := by rw [IntKind.wrap_i64]; omega
def trS (l : List Nat) : St := ⟨[(0, .r (.sl 1 (wns l)))], [], 0⟩
theorem last_cases (l : List Nat) : l = [] ∨ ∃ m a, l = m ++ [a] := by
  rcases List.eq_nil_or_concat l with h | ⟨m, a, h⟩
  · exact .inl h
  · exact .inr ⟨m, a, by simpa using h⟩
theorem trim_m (l : List Nat) (hl : l.length ≤ 9223372036854775800) : Meets Tryd.prog 41 [.r (.sl 1 (wns l))] [] (.r (.sl 1 (wns (trim l)))) [] := by
  refine fn_of Tryd.func41 rfl (Nat.le_of_ble_eq_true rfl) rfl rfl ?_
  (repeat' (first | refine r_4eabd4 ?_ | (refine r_48b933 (fun hb => ?_) (fun hb => ?_) <;> (try (exfalso; omega))) | (refine awp_cond rfl (fun hb => ?_) (fun hb => ?_) <;> (try simp only [Bool.not_eq_true', Bool.not_eq_false', decide_eq_true_eq, decide_eq_false_iff_not] at hb) <;> (try (exfalso; omega)))))
  refine awp_loop' trS (fun x => trim x = trim l ∧ x.length ≤ l.length) (fun x => x.length) l ⟨rfl, Nat.le_refl _⟩ (by (refine Le.mk [] [] q_5ec36 q_43730 q_16bb5 q_509a2)) fun x hx => ?_
  obtain ⟨hx, hxl⟩ := hx
  rcases last_cases x with rfl | ⟨m, a, rfl⟩
  · rw [← hx]
    have h0 : (wns []).length = 0 := rfl
    (repeat' (first | refine r_4eabd4 ?_ | (refine r_48b933 (fun hb => ?_) (fun hb => ?_) <;> (try (exfalso; omega))) | (refine awp_cond rfl (fun hb => ?_) (fun hb => ?_) <;> (try simp only [Bool.not_eq_true', Bool.not_eq_false', decide_eq_true_eq, decide_eq_false_iff_not] at hb) <;> (try (exfalso; omega)))))
    all_goals (first | exact ret1 [] (.r _) rfl rfl rfl | (exfalso; omega))
  · have hlen : (wns (m ++ [a])).length = m.length + 1 := by rw [wns_len]; simp
    have hml : m.length + 1 ≤ l.length := by simpa using hxl
    have hw : IntKind.i64.wrap (((wns (m ++ [a])).length : Int) - 1) = (m.length : Int) := by rw [hlen]; exact i64_len1 _ (by omega)
    have hg : (wns (m ++ [a]))[m.length]? = some [.v (.int .u64 (a : Int))] := by rw [wns_get (by simp)]; simp
    have ht : (wns (m ++ [a])).take m.length = wns m := by rw [wns_take]; simp
    by_cases ha : a = 0
    · subst ha
      rw [trim_last] at hx
      (repeat' (first | refine r_4eabd4 ?_ | (refine r_48b933 (fun hb => ?_) (fun hb => ?_) <;> (try (exfalso; omega))) | (refine awp_cond rfl (fun hb => ?_) (fun hb => ?_) <;> (try simp only [Bool.not_eq_true', Bool.not_eq_false', decide_eq_true_eq, decide_eq_false_iff_not] at hb) <;> (try (exfalso; omega)))))
      all_goals (first | (exfalso; omega) | exact ⟨m, ⟨hx, by omega⟩, by show Le _ _ (trS m); rw [ht]; (refine Le.mk [] [] q_5ec36 q_43730 q_16bb5 q_509a2), by show m.length < (m ++ [0]).length; simp⟩)
    · rw [trim_keep m a ha] at hx
      rw [← hx]
      (repeat' (first | refine r_4eabd4 ?_ | (refine r_48b933 (fun hb => ?_) (fun hb => ?_) <;> (try (exfalso; omega))) | (refine awp_cond rfl (fun hb => ?_) (fun hb => ?_) <;> (try simp only [Bool.not_eq_true', Bool.not_eq_false', decide_eq_true_eq, decide_eq_false_iff_not] at hb) <;> (try (exfalso; omega)))))
      all_goals (first | (exfalso; omega) | exact ret1 [] (.r _) rfl rfl rfl)
def trO (l : List Nat) : St := ⟨[(0, .ow 1)], [(1, some (.row 28 1 (wns l)))], 2⟩
def trL (y : List Nat) (k : Nat) : St := ⟨[(0, .ol 1 k)], [(1, some (.row 28 1 (wns y)))], 2⟩
/-- The same of a slice that is handed over. -/
theorem trim_o (l : List Nat) (hl : l.length ≤ 9223372036854775800) : Meets Tryd.prog 41 [.ow 0] [.row 28 1 (wns l)] (.fr 28 1 (wns (trim l))) [none] := by
  refine fn_of Tryd.func41 rfl (Nat.le_of_ble_eq_true rfl) rfl rfl ?_
  (repeat' (first | refine r_4eabd4 ?_ | (refine r_48b933 (fun hb => ?_) (fun hb => ?_) <;> (try (exfalso; omega))) | (refine awp_cond rfl (fun hb => ?_) (fun hb => ?_) <;> (try simp only [Bool.not_eq_true', Bool.not_eq_false', decide_eq_true_eq, decide_eq_false_iff_not] at hb) <;> (try (exfalso; omega)))))
  refine awp_olow 0 (m := (wns l).length) (.inr ⟨rfl, rfl⟩) rfl (Nat.le_refl _) rfl rfl ?_
  rw [List.take_length]
  refine awp_loop' (fun o : Option (List Nat × Nat) => match o with | none => trO l | some p => trL p.1 p.2) (fun o => match o with | none => True | some p => trim (p.1.take p.2) = trim l ∧ p.2 ≤ p.1.length ∧ p.1.length ≤ l.length ∧ p.2 < l.length) (fun o => match o with | none => l.length | some p => p.2) none trivial (by (refine Le.mk [(1,1)] [] q_5ec36 q_43730 q_16bb5 q_509a2)) fun o ho => ?_
  have key : ∀ (x : List Nat), x.length ≤ l.length → (x = [] ∧ (wns x).length = 0) ∨ ∃ m a, x = m ++ [a] ∧ (wns x).length = m.length + 1 ∧ IntKind.i64.wrap (((wns x).length : Int) - 1) = (m.length : Int) ∧ (wns x)[m.length]? = some [.v (.int .u64 (a : Int))] := by
    intro x hx
    rcases last_cases x with rfl | ⟨m, a, rfl⟩
    · exact .inl ⟨rfl, rfl⟩
    · have hlen : (wns (m ++ [a])).length = m.length + 1 := by rw [wns_len]; simp
      have : m.length + 1 ≤ l.length := by simpa using hx
      refine .inr ⟨m, a, rfl, hlen, by rw [hlen]; exact i64_len1 _ (by omega), by rw [wns_get (by simp)]; simp⟩
  cases o with
  | none =>
    change awp _ _ _ _ _ (trO l)
    rcases key l (Nat.le_refl _) with ⟨h1, h0⟩ | ⟨m, a, h1, hlen, hw, hg⟩
    · rw [h1] at h0 ⊢
      (repeat' (first | refine r_4eabd4 ?_ | (refine r_48b933 (fun hb => ?_) (fun hb => ?_) <;> (try (exfalso; omega))) | (refine awp_cond rfl (fun hb => ?_) (fun hb => ?_) <;> (try simp only [Bool.not_eq_true', Bool.not_eq_false', decide_eq_true_eq, decide_eq_false_iff_not] at hb) <;> (try (exfalso; omega)))))
      all_goals (first | exact ret1P [] (.fr 1 _ _ _ rfl) rfl rfl (post_none rfl) rfl | (exfalso; omega))
    · have hml : m.length + 1 = l.length := by rw [h1]; simp
      by_cases ha : a = 0
      · subst ha
        (repeat' (first | refine r_4eabd4 ?_ | (refine r_48b933 (fun hb => ?_) (fun hb => ?_) <;> (try (exfalso; omega))) | (refine awp_cond rfl (fun hb => ?_) (fun hb => ?_) <;> (try simp only [Bool.not_eq_true', Bool.not_eq_false', decide_eq_true_eq, decide_eq_false_iff_not] at hb) <;> (try (exfalso; omega)))))
        all_goals (first | (exfalso; omega) | exact ⟨some (l, m.length), ⟨by show trim (l.take m.length) = trim l; rw [h1, trim_last]; simp, by show m.length ≤ l.length; omega, Nat.le_refl _, by show m.length < l.length; omega⟩, by show Le _ _ (trL l m.length); (refine Le.mk [(1,1)] [] q_5ec36 q_43730 q_16bb5 q_509a2), by show m.length < l.length; omega⟩)
      · have e : trim l = l := by rw [h1, trim_keep m a ha]
        rw [e]
        (repeat' (first | refine r_4eabd4 ?_ | (refine r_48b933 (fun hb => ?_) (fun hb => ?_) <;> (try (exfalso; omega))) | (refine awp_cond rfl (fun hb => ?_) (fun hb => ?_) <;> (try simp only [Bool.not_eq_true', Bool.not_eq_false', decide_eq_true_eq, decide_eq_false_iff_not] at hb) <;> (try (exfalso; omega)))))
        all_goals (first | (exfalso; omega) | exact ret1P [] (.fr 1 _ _ _ rfl) rfl rfl (post_none rfl) rfl)
  | some p =>
    obtain ⟨y, k⟩ := p
    obtain ⟨hx, hk, hyl, hkl⟩ := ho
    dsimp only at hx hk hyl hkl
    change awp _ _ _ _ _ (trL y k)
    refine awp_olow 0 (m := k) (.inl rfl) rfl (by rw [wns_len]; exact hk) rfl rfl ?_
    rw [wns_take]
    have hxl : (y.take k).length = k := by rw [List.length_take]; omega
    generalize y.take k = x at *
    rcases key x (by omega) with ⟨h1, h0⟩ | ⟨m, a, h1, hlen, hw, hg⟩
    · rw [← hx]
      rw [h1] at h0 ⊢
      (repeat' (first | refine r_4eabd4 ?_ | (refine r_48b933 (fun hb => ?_) (fun hb => ?_) <;> (try (exfalso; omega))) | (refine awp_cond rfl (fun hb => ?_) (fun hb => ?_) <;> (try simp only [Bool.not_eq_true', Bool.not_eq_false', decide_eq_true_eq, decide_eq_false_iff_not] at hb) <;> (try (exfalso; omega)))))
      all_goals (first | exact ret1P [] (.fr 2 _ _ _ rfl) rfl rfl (post_none rfl) rfl | (exfalso; omega))
    · have hml : m.length + 1 = k := by rw [← hxl, h1]; simp
      by_cases ha : a = 0
      · subst ha
        (repeat' (first | refine r_4eabd4 ?_ | (refine r_48b933 (fun hb => ?_) (fun hb => ?_) <;> (try (exfalso; omega))) | (refine awp_cond rfl (fun hb => ?_) (fun hb => ?_) <;> (try simp only [Bool.not_eq_true', Bool.not_eq_false', decide_eq_true_eq, decide_eq_false_iff_not] at hb) <;> (try (exfalso; omega)))))
        all_goals (first | (exfalso; omega) | exact ⟨some (x, m.length), ⟨by show trim (x.take m.length) = trim l; rw [← hx, h1, trim_last]; simp, by show m.length ≤ x.length; omega, by show x.length ≤ l.length; omega, by show m.length < l.length; omega⟩, by show Le _ _ (trL x m.length); (refine Le.mk [(1,2)] [] q_5ec36 q_43730 q_16bb5 q_509a2), by show m.length < k; omega⟩)
      · have e : trim x = x := by rw [h1, trim_keep m a ha]
        rw [← hx, e]
        (repeat' (first | refine r_4eabd4 ?_ | (refine r_48b933 (fun hb => ?_) (fun hb => ?_) <;> (try (exfalso; omega))) | (refine awp_cond rfl (fun hb => ?_) (fun hb => ?_) <;> (try simp only [Bool.not_eq_true', Bool.not_eq_false', decide_eq_true_eq, decide_eq_false_iff_not] at hb) <;> (try (exfalso; omega)))))
        all_goals (first | (exfalso; omega) | exact ret1P [] (.fr 2 _ _ _ rfl) rfl rfl (post_none rfl) rfl)
end Go.Proofs.YtbndknhljkpijaaDoor
