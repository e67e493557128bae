/- Texts of the second layer in one: Wd1. -/
set_option linter.unusedVariables false
set_option linter.unusedSimpArgs false
namespace Go.Wd
abbrev B64 : Nat := 18446744073709551616
def val : List Nat → Nat
 | [] => 0
 | a :: l => a + B64 * val l
def ws : Nat → Nat → List Nat
 | _, 0 => []
 | n, k + 1 => n % B64 :: ws (n / B64) k
def Wds (l : List Nat) : Prop := ∀ a ∈ l, a < B64
theorem ws_len : ∀ (k n : Nat), (ws n k).length = k
 | 0, _ => rfl
 | k + 1, n => by rw [ws, List.length_cons, ws_len k]
theorem ws_wds : ∀ (k n : Nat), Wds (ws n k)
 | 0, _ => by intro a h; cases h
 | k + 1, n => by
  intro a h
  rw [ws] at h
  rcases List.mem_cons.1 h with rfl | h
  ·unfold B64; omega
  ·exact ws_wds k _ a h
theorem val_ws : ∀ (k n : Nat), n < B64 ^ k → val (ws n k) = n
 | 0, n, h => by have : n = 0 := by simpa using h
                 subst this; rfl
 | k + 1, n, h => by
  rw [ws, val, val_ws k (n / B64) (by rw [Nat.div_lt_iff_lt_mul (by unfold B64; omega)]; rw [Nat.pow_succ] at h; exact h)]
  exact Nat.mod_add_div n B64
theorem ws_val : ∀ (l : List Nat), Wds l → ws (val l) l.length = l
 | [], _ => rfl
 | a :: l, h => by
  have ha : a < B64 := h a (by simp)
  have h1 : (a + B64 * val l) % B64 = a := by unfold B64 at *; omega
  have h2 : (a + B64 * val l) / B64 = val l := by unfold B64 at *; omega
  rw [val, List.length_cons, ws, h1, h2, ws_val l (fun x hx => h x (by simp [hx]))]
theorem val_lt : ∀ (l : List Nat), Wds l → val l < B64 ^ l.length
 | [], _ => by simp [val]
 | a :: l, h => by
  have ha : a < B64 := h a (by simp)
  have := val_lt l (fun x hx => h x (by simp [hx]))
  rw [val, List.length_cons, Nat.pow_succ]
  have : B64 * (val l + 1) ≤ B64 * B64 ^ l.length := Nat.mul_le_mul (Nat.le_refl _) this
  rw [Nat.mul_comm (B64 ^ l.length)]
  rw [Nat.mul_add] at this
  omega
theorem val_append : ∀ (l m : List Nat), val (l ++ m) = val l + B64 ^ l.length * val m
 | [], m => by simp [val]
 | a :: l, m => by
  rw [List.cons_append, val, val, val_append l m, List.length_cons, Nat.pow_succ, Nat.mul_add]
  rw [← Nat.mul_assoc, Nat.mul_comm B64 (B64 ^ l.length)]
  omega
theorem val_zeros : ∀ k, val (List.replicate k 0) = 0
 | 0 => rfl
 | k + 1 => by rw [List.replicate_succ, val, val_zeros k]; rfl
theorem val_set : ∀ (l : List Nat) (p v : Nat), p < l.length → val (l.set p v) + B64 ^ p * l.getD p 0 = val l + B64 ^ p * v
 | [], p, v, h => by simp at h
 | a :: l, 0, v, h => by simp [val]; omega
 | a :: l, p + 1, v, h => by
  have ih := val_set l p v (by simpa using h)
  rw [List.set_cons_succ, val, val, List.getD_cons_succ, Nat.pow_succ]
  have e1 : B64 ^ p * B64 * l.getD p 0 = B64 * (B64 ^ p * l.getD p 0) := by rw [Nat.mul_comm (B64 ^ p), Nat.mul_assoc]
  have e2 : B64 ^ p * B64 * v = B64 * (B64 ^ p * v) := by rw [Nat.mul_comm (B64 ^ p), Nat.mul_assoc]
  rw [e1, e2, Nat.add_assoc, ← Nat.mul_add, ih, Nat.mul_add]
  omega
theorem Wds.set {l : List Nat} (h : Wds l) (p : Nat) {v : Nat} (hv : v < B64) : Wds (l.set p v) := by
 intro a ha
 rcases List.mem_or_eq_of_mem_set ha with h' | rfl
 ·exact h a h'
 ·exact hv
theorem Wds.get {l : List Nat} (h : Wds l) (p : Nat) : l.getD p 0 < B64 := by
 rcases Nat.lt_or_ge p l.length with hp | hp
 ·have : l.getD p 0 = l[p] := by simp [hp]
  rw [this]; exact h _ (List.getElem_mem hp)
 ·have : l.getD p 0 = 0 := by simp [hp]
  rw [this]; unfold B64; omega
def tw (n : Nat) : List Nat := if h : n = 0 then [] else n % B64 :: tw (n / B64)
termination_by n
decreasing_by exact Nat.div_lt_self (by omega) (by unfold B64; omega)
theorem tw_zero : tw 0 = [] := by rw [tw]; rfl
theorem tw_pos {n : Nat} (h : n ≠ 0) : tw n = n % B64 :: tw (n / B64) := by rw [tw, dif_neg h]
theorem val_tw (n : Nat) : val (tw n) = n := by
 induction n using Nat.strongRecOn with
 | ind n ih =>
  by_cases h : n = 0
  ·subst h; rw [tw_zero]; rfl
  ·rw [tw_pos h, val, ih (n / B64) (Nat.div_lt_self (by omega) (by unfold B64; omega))]
   exact Nat.mod_add_div n B64
theorem tw_wds (n : Nat) : Wds (tw n) := by
 induction n using Nat.strongRecOn with
 | ind n ih =>
  by_cases h : n = 0
  ·subst h; rw [tw_zero]; intro a h; cases h
  ·rw [tw_pos h]
   intro a ha
   rcases List.mem_cons.1 ha with rfl | ha
   ·unfold B64; omega
   ·exact ih (n / B64) (Nat.div_lt_self (by omega) (by unfold B64; omega)) a ha
theorem tw_len (k : Nat) : ∀ n, n < B64 ^ k → (tw n).length ≤ k := by
 induction k with
 | zero => intro n h; have : n = 0 := by simpa using h
           subst this; rw [tw_zero]; exact Nat.le_refl _
 | succ k ih =>
  intro n h
  by_cases h0 : n = 0
  ·subst h0; rw [tw_zero]; simp
  ·rw [tw_pos h0, List.length_cons]
   have := ih (n / B64) (by rw [Nat.div_lt_iff_lt_mul (by unfold B64; omega)]; rw [Nat.pow_succ] at h; exact h)
   omega
theorem tw_len_lt (k : Nat) (n : Nat) (h : (tw n).length ≤ k) : n < B64 ^ k := by
 have h1 := val_lt (tw n) (tw_wds n)
 rw [val_tw] at h1
 exact Nat.lt_of_lt_of_le h1 (Nat.pow_le_pow_right (by unfold B64; omega) h)
def trim : List Nat → List Nat
 | [] => []
 | a :: l => match trim l with
  | [] => if a = 0 then [] else [a]
  | b :: m => a :: b :: m
theorem trim_tw : ∀ (l : List Nat), Wds l → trim l = tw (val l)
 | [], _ => by rw [trim, val, tw_zero]
 | a :: l, h => by
  have ha : a < B64 := h a (by simp)
  have h1 : (a + B64 * val l) % B64 = a := by unfold B64 at *; omega
  have h2 : (a + B64 * val l) / B64 = val l := by unfold B64 at *; omega
  have ih := trim_tw l (fun x hx => h x (by simp [hx]))
  rw [trim, ih, val]
  by_cases hv : val l = 0
  ·rw [hv, tw_zero]
   by_cases h0 : a = 0
   ·subst h0; rw [if_pos rfl]; rw [Nat.mul_zero, Nat.add_zero, tw_zero]
   ·rw [if_neg h0, Nat.mul_zero, Nat.add_zero, tw_pos h0, Nat.mod_eq_of_lt ha, Nat.div_eq_of_lt ha, tw_zero]
  ·have hn : a + B64 * val l ≠ 0 := by unfold B64; omega
   rw [tw_pos hn, h1, h2]
   have : ∃ b m, tw (val l) = b :: m := by rw [tw_pos hv]; exact ⟨_, _, rfl⟩
   obtain ⟨b, m, hb⟩ := this
   rw [hb]
theorem trim_last (l : List Nat) : trim (l ++ [0]) = trim l := by
 induction l with
 | nil => rfl
 | cons a l ih => rw [List.cons_append, trim, ih, trim]
theorem trim_keep (l : List Nat) (a : Nat) (h : a ≠ 0) : trim (l ++ [a]) = l ++ [a] := by
 induction l with
 | nil => rw [List.nil_append, trim, trim]; simp only []; rw [if_neg h]
 | cons b l ih =>
  rw [List.cons_append, trim, ih]
  cases l with
  | nil => rfl
  | cons c l => rfl
def mIn (x : Nat) (b : List Nat) (i : Nat) : Nat → Nat → Nat → List Nat → Nat × List Nat
 | 0, _, c, l => (c, l)
 | j + 1, k, c, l => mIn x b i j (k + 1) ((x * b.getD k 0 + l.getD (i + k) 0 + c) / B64) (l.set (i + k) ((x * b.getD k 0 + l.getD (i + k) 0 + c) % B64))
def mOut (a b : List Nat) : Nat → Nat → List Nat → List Nat
 | 0, _, l => l
 | j + 1, i, l => mOut a b j (i + 1) ((mIn (a.getD i 0) b i b.length 0 0 l).2.set (i + b.length) (mIn (a.getD i 0) b i b.length 0 0 l).1)
theorem round_lt {x y s c : Nat} (hx : x < B64) (hy : y < B64) (hs : s < B64) (hc : c < B64) : (x * y + s + c) / B64 < B64 := by
 rw [Nat.div_lt_iff_lt_mul (by unfold B64; omega)]
 have h1 : x * y ≤ (B64 - 1) * (B64 - 1) := Nat.mul_le_mul (by omega) (by omega)
 have h2 : (B64 - 1) * (B64 - 1) + (B64 - 1) + (B64 - 1) < B64 * B64 := by decide
 omega
theorem val_drop : ∀ (b : List Nat) (k : Nat), k < b.length → val (b.drop k) = b.getD k 0 + B64 * val (b.drop (k + 1))
 | [], k, h => by simp at h
 | a :: b, 0, _ => by simp [val]
 | a :: b, k + 1, h => by rw [List.drop_succ_cons, val_drop b k (by simpa using h), List.getD_cons_succ, List.drop_succ_cons]
theorem mIn_law (x : Nat) (b : List Nat) (i : Nat) (hx : x < B64) (hb : Wds b) : ∀ (j k c : Nat) (l : List Nat), j + k = b.length → i + b.length ≤ l.length → Wds l → c < B64 →
  (mIn x b i j k c l).1 < B64 ∧ Wds (mIn x b i j k c l).2 ∧ (mIn x b i j k c l).2.length = l.length ∧ (∀ p, i + b.length ≤ p → (mIn x b i j k c l).2.getD p 0 = l.getD p 0) ∧
  val (mIn x b i j k c l).2 + B64 ^ (i + b.length) * (mIn x b i j k c l).1 = val l + B64 ^ (i + k) * c + B64 ^ (i + k) * (x * val (b.drop k))
 | 0, k, c, l, hj, hl, hw, hc => by
  have hk : k = b.length := by omega
  subst hk
  refine ⟨hc, hw, rfl, fun p _ => rfl, ?_⟩
  simp [mIn, val]
 | j + 1, k, c, l, hj, hl, hw, hc => by
  have hr := round_lt hx (hb.get k) (hw.get (i + k)) hc
  have hs : (x * b.getD k 0 + l.getD (i + k) 0 + c) % B64 < B64 := by unfold B64; omega
  obtain ⟨h1, h2, h3, h4, h5⟩ := mIn_law x b i hx hb j (k + 1) _ (l.set (i + k) ((x * b.getD k 0 + l.getD (i + k) 0 + c) % B64)) (by omega) (by rw [List.length_set]; exact hl) (hw.set (i + k) hs) hr
  rw [mIn]
  refine ⟨h1, h2, by rw [h3, List.length_set], fun p hp => ?_, ?_⟩
  ·rw [h4 p hp]
   have : i + k ≠ p := by omega
   simp [List.getD_eq_getElem?_getD, List.getElem?_set, this]
  ·rw [h5]
   have hv := val_set l (i + k) ((x * b.getD k 0 + l.getD (i + k) 0 + c) % B64) (by omega)
   have hd := val_drop b k (by omega)
   rw [hd]
   have hm := Nat.mod_add_div (x * b.getD k 0 + l.getD (i + k) 0 + c) B64
   generalize (x * b.getD k 0 + l.getD (i + k) 0 + c) % B64 = r at *
   generalize (x * b.getD k 0 + l.getD (i + k) 0 + c) / B64 = q at *
   generalize val (b.drop (k + 1)) = V at *
   generalize b.getD k 0 = y at *
   generalize l.getD (i + k) 0 = s at *
   rw [show i + (k + 1) = (i + k) + 1 from rfl, Nat.pow_succ]
   generalize B64 ^ (i + k) = M at *
   have e1 : M * (x * y + s + c) = M * (r + B64 * q) := by rw [hm]
   have e2 : M * (x * (y + B64 * V)) = M * (x * y) + M * B64 * (x * V) := by rw [Nat.mul_add, Nat.mul_add, Nat.mul_left_comm x B64 V, ← Nat.mul_assoc M B64]
   have e3 : M * (r + B64 * q) = M * r + M * B64 * q := by rw [Nat.mul_add, ← Nat.mul_assoc]
   rw [e2]
   rw [e3, Nat.mul_add, Nat.mul_add] at e1
   omega
theorem mOut_law (a b : List Nat) (ha : Wds a) (hb : Wds b) : ∀ (j i : Nat) (l : List Nat), j + i = a.length → a.length + b.length ≤ l.length → Wds l → (∀ p, i + b.length ≤ p → l.getD p 0 = 0) →
  Wds (mOut a b j i l) ∧ (mOut a b j i l).length = l.length ∧ val (mOut a b j i l) = val l + B64 ^ i * (val (a.drop i) * val b)
 | 0, i, l, hj, hl, hw, hz => by
  have : i = a.length := by omega
  subst this
  simp [mOut, val, hw]
 | j + 1, i, l, hj, hl, hw, hz => by
  obtain ⟨h1, h2, h3, h4, h5⟩ := mIn_law (a.getD i 0) b i (ha.get i) hb b.length 0 0 l (by omega) (by omega) hw (by decide)
  rw [mOut]
  generalize mIn (a.getD i 0) b i b.length 0 0 l = R at *
  obtain ⟨c, m⟩ := R
  dsimp only at *
  obtain ⟨g1, g2, g3⟩ := mOut_law a b ha hb j (i + 1) (m.set (i + b.length) c) (by omega) (by rw [List.length_set]; omega) (h2.set _ h1) (fun p hp => by
   have : i + b.length ≠ p := by omega
   have e := h4 p (by omega)
   rw [hz p (by omega)] at e
   simpa [List.getD_eq_getElem?_getD, List.getElem?_set, this] using e)
  refine ⟨g1, by rw [g2, List.length_set, h3], ?_⟩
  rw [g3]
  have hv := val_set m (i + b.length) c (by omega)
  rw [h4 _ (Nat.le_refl _), hz _ (Nat.le_refl _)] at hv
  have hd := val_drop a i (by omega)
  rw [hd]
  simp only [List.drop_zero, Nat.add_zero, Nat.mul_zero] at h5 hv
  rw [Nat.pow_succ]
  generalize val (a.drop (i + 1)) = V at *
  generalize a.getD i 0 = x at *
  generalize B64 ^ (i + b.length) = K at *
  generalize B64 ^ i = M at *
  have e2 : M * ((x + B64 * V) * val b) = M * (x * val b) + M * B64 * (V * val b) := by rw [Nat.add_mul, Nat.mul_add, Nat.mul_assoc B64, ← Nat.mul_assoc M B64]
  rw [e2]
  omega
theorem mul_law (a b : List Nat) (n : Nat) (ha : Wds a) (hb : Wds b) (hn : a.length + b.length ≤ n) :
  Wds (mOut a b a.length 0 (List.replicate n 0)) ∧ (mOut a b a.length 0 (List.replicate n 0)).length = n ∧ val (mOut a b a.length 0 (List.replicate n 0)) = val a * val b := by
 obtain ⟨h1, h2, h3⟩ := mOut_law a b ha hb a.length 0 (List.replicate n 0) (by omega) (by simpa using hn) (fun x hx => by rw [List.eq_of_mem_replicate hx]; decide) (fun p _ => by
  simp only [List.getD_eq_getElem?_getD, List.getElem?_replicate]; split <;> rfl)
 refine ⟨h1, by rw [h2, List.length_replicate], ?_⟩
 rw [h3, val_zeros]; simp
end Go.Wd
