/- Texts of the second layer in one: Wd1 Ab27 Un Rc Ab28 Ab29 Ab30. -/
import Derived.Test.YtpnbgalbdohfgaaGreatDoorG4
import Derived.Test.YtpnbgalbdohfgaaGreatDoorAu
set_option maxRecDepth 100000
set_option linter.unusedVariables false
set_option linter.unusedSimpArgs false
namespace Go.Wd
abbrev B64 : Nat := 18446744073709551616
def val : List Nat → Nat
 | [] => 0
 | a :: l => a + B64 * val l
def ws : Nat → Nat → List Nat
 | _, 0 => []
 | n, k + 1 => n % B64 :: ws (n / B64) k
def Wds (l : List Nat) : Prop := ∀ a ∈ l, a < B64
theorem zcC : ∀ (k n : Nat), (ws n k).length = k
 | 0, _ => rfl
 | k + 1, n => by rw [ws, List.length_cons, zcC k]
theorem zdM : ∀ (k n : Nat), Wds (ws n k)
 | 0, _ => by intro a h; cases h
 | k + 1, n => by
  intro a h
  rw [ws] at h
  rcases List.mem_cons.1 h with rfl | h
  ·unfold B64; omega
  ·exact zdM k _ a h
theorem zdL : ∀ (k n : Nat), n < B64 ^ k → val (ws n k) = n
 | 0, n, h => by have : n = 0 := by simpa using h
                 subst this; rfl
 | k + 1, n, h => by
  rw [ws, val, zdL k (n / B64) (by rw [Nat.div_lt_iff_lt_mul (by unfold B64; omega)]; rw [Nat.pow_succ] at h; exact h)]
  exact Nat.mod_add_div n B64
theorem zi6 : ∀ (l : List Nat), Wds l → ws (val l) l.length = l
 | [], _ => rfl
 | a :: l, h => by
  have ha : a < B64 := h a (by simp)
  have h1 : (a + B64 * val l) % B64 = a := by unfold B64 at *; omega
  have h2 : (a + B64 * val l) / B64 = val l := by unfold B64 at *; omega
  rw [val, List.length_cons, ws, h1, h2, zi6 l (fun x hx => h x (by simp [hx]))]
theorem zgv : ∀ (l : List Nat), Wds l → val l < B64 ^ l.length
 | [], _ => by simp [val]
 | a :: l, h => by
  have ha : a < B64 := h a (by simp)
  have := zgv l (fun x hx => h x (by simp [hx]))
  rw [val, List.length_cons, Nat.pow_succ]
  have : B64 * (val l + 1) ≤ B64 * B64 ^ l.length := Nat.mul_le_mul (Nat.le_refl _) this
  rw [Nat.mul_comm (B64 ^ l.length)]
  rw [Nat.mul_add] at this
  omega
theorem zcg : ∀ (l m : List Nat), val (l ++ m) = val l + B64 ^ l.length * val m
 | [], m => by simp [val]
 | a :: l, m => by
  rw [List.cons_append, val, val, zcg l m, List.length_cons, Nat.pow_succ, Nat.mul_add]
  rw [← Nat.mul_assoc, Nat.mul_comm B64 (B64 ^ l.length)]
  omega
theorem zfY : ∀ k, val (List.replicate k 0) = 0
 | 0 => rfl
 | k + 1 => by rw [List.replicate_succ, val, zfY k]; rfl
theorem zdp : ∀ (l : List Nat) (p v : Nat), p < l.length → val (l.set p v) + B64 ^ p * l.getD p 0 = val l + B64 ^ p * v
 | [], p, v, h => by simp at h
 | a :: l, 0, v, h => by simp [val]; omega
 | a :: l, p + 1, v, h => by
  have ih := zdp l p v (by simpa using h)
  rw [List.set_cons_succ, val, val, List.getD_cons_succ, Nat.pow_succ]
  have e1 : B64 ^ p * B64 * l.getD p 0 = B64 * (B64 ^ p * l.getD p 0) := by rw [Nat.mul_comm (B64 ^ p), Nat.mul_assoc]
  have e2 : B64 ^ p * B64 * v = B64 * (B64 ^ p * v) := by rw [Nat.mul_comm (B64 ^ p), Nat.mul_assoc]
  rw [e1, e2, Nat.add_assoc, ← Nat.mul_add, ih, Nat.mul_add]
  omega
theorem Wds.set {l : List Nat} (h : Wds l) (p : Nat) {v : Nat} (hv : v < B64) : Wds (l.set p v) := by
 intro a ha
 rcases List.mem_or_eq_of_mem_set ha with h' | rfl
 ·exact h a h'
 ·exact hv
theorem Wds.get {l : List Nat} (h : Wds l) (p : Nat) : l.getD p 0 < B64 := by
 rcases Nat.lt_or_ge p l.length with hp | hp
 ·have : l.getD p 0 = l[p] := by simp [hp]
  rw [this]; exact h _ (List.getElem_mem hp)
 ·have : l.getD p 0 = 0 := by simp [hp]
  rw [this]; unfold B64; omega
def tw (n : Nat) : List Nat := if h : n = 0 then [] else n % B64 :: tw (n / B64)
termination_by n
decreasing_by exact Nat.div_lt_self (by omega) (by unfold B64; omega)
theorem zb7 : tw 0 = [] := by rw [tw]; rfl
theorem zeq {n : Nat} (h : n ≠ 0) : tw n = n % B64 :: tw (n / B64) := by rw [tw, dif_neg h]
theorem zaV (n : Nat) : val (tw n) = n := by
 induction n using Nat.strongRecOn with
 | ind n ih =>
  by_cases h : n = 0
  ·subst h; rw [zb7]; rfl
  ·rw [zeq h, val, ih (n / B64) (Nat.div_lt_self (by omega) (by unfold B64; omega))]
   exact Nat.mod_add_div n B64
theorem zbe (n : Nat) : Wds (tw n) := by
 induction n using Nat.strongRecOn with
 | ind n ih =>
  by_cases h : n = 0
  ·subst h; rw [zb7]; intro a h; cases h
  ·rw [zeq h]
   intro a ha
   rcases List.mem_cons.1 ha with rfl | ha
   ·unfold B64; omega
   ·exact ih (n / B64) (Nat.div_lt_self (by omega) (by unfold B64; omega)) a ha
theorem zbk (k : Nat) : ∀ n, n < B64 ^ k → (tw n).length ≤ k := by
 induction k with
 | zero => intro n h; have : n = 0 := by simpa using h
           subst this; rw [zb7]; exact Nat.le_refl _
 | succ k ih =>
  intro n h
  by_cases h0 : n = 0
  ·subst h0; rw [zb7]; simp
  ·rw [zeq h0, List.length_cons]
   have := ih (n / B64) (by rw [Nat.div_lt_iff_lt_mul (by unfold B64; omega)]; rw [Nat.pow_succ] at h; exact h)
   omega
theorem zkU (k : Nat) (n : Nat) (h : (tw n).length ≤ k) : n < B64 ^ k := by
 have h1 := zgv (tw n) (zbe n)
 rw [zaV] at h1
 exact Nat.lt_of_lt_of_le h1 (Nat.pow_le_pow_right (by unfold B64; omega) h)
def trim : List Nat → List Nat
 | [] => []
 | a :: l => match trim l with
  | [] => if a = 0 then [] else [a]
  | b :: m => a :: b :: m
theorem zdb : ∀ (l : List Nat), Wds l → trim l = tw (val l)
 | [], _ => by rw [trim, val, zb7]
 | a :: l, h => by
  have ha : a < B64 := h a (by simp)
  have h1 : (a + B64 * val l) % B64 = a := by unfold B64 at *; omega
  have h2 : (a + B64 * val l) / B64 = val l := by unfold B64 at *; omega
  have ih := zdb l (fun x hx => h x (by simp [hx]))
  rw [trim, ih, val]
  by_cases hv : val l = 0
  ·rw [hv, zb7]
   by_cases h0 : a = 0
   ·subst h0; rw [if_pos rfl]; rw [Nat.mul_zero, Nat.add_zero, zb7]
   ·rw [if_neg h0, Nat.mul_zero, Nat.add_zero, zeq h0, Nat.mod_eq_of_lt ha, Nat.div_eq_of_lt ha, zb7]
  ·have hn : a + B64 * val l ≠ 0 := by unfold B64; omega
   rw [zeq hn, h1, h2]
   have : ∃ b m, tw (val l) = b :: m := by rw [zeq hv]; exact ⟨_, _, rfl⟩
   obtain ⟨b, m, hb⟩ := this
   rw [hb]
theorem zfS (l : List Nat) : trim (l ++ [0]) = trim l := by
 induction l with
 | nil => rfl
 | cons a l ih => rw [List.cons_append, trim, ih, trim]
theorem zfR (l : List Nat) (a : Nat) (h : a ≠ 0) : trim (l ++ [a]) = l ++ [a] := by
 induction l with
 | nil => rw [List.nil_append, trim, trim]; simp only []; rw [if_neg h]
 | cons b l ih =>
  rw [List.cons_append, trim, ih]
  cases l with
  | nil => rfl
  | cons c l => rfl
def mIn (x : Nat) (b : List Nat) (i : Nat) : Nat → Nat → Nat → List Nat → Nat × List Nat
 | 0, _, c, l => (c, l)
 | j + 1, k, c, l => mIn x b i j (k + 1) ((x * b.getD k 0 + l.getD (i + k) 0 + c) / B64) (l.set (i + k) ((x * b.getD k 0 + l.getD (i + k) 0 + c) % B64))
def mOut (a b : List Nat) : Nat → Nat → List Nat → List Nat
 | 0, _, l => l
 | j + 1, i, l => mOut a b j (i + 1) ((mIn (a.getD i 0) b i b.length 0 0 l).2.set (i + b.length) (mIn (a.getD i 0) b i b.length 0 0 l).1)
theorem zlC {x y s c : Nat} (hx : x < B64) (hy : y < B64) (hs : s < B64) (hc : c < B64) : (x * y + s + c) / B64 < B64 := by
 rw [Nat.div_lt_iff_lt_mul (by unfold B64; omega)]
 have h1 : x * y ≤ (B64 - 1) * (B64 - 1) := Nat.mul_le_mul (by omega) (by omega)
 have h2 : (B64 - 1) * (B64 - 1) + (B64 - 1) + (B64 - 1) < B64 * B64 := by decide
 omega
theorem zdJ : ∀ (b : List Nat) (k : Nat), k < b.length → val (b.drop k) = b.getD k 0 + B64 * val (b.drop (k + 1))
 | [], k, h => by simp at h
 | a :: b, 0, _ => by simp [val]
 | a :: b, k + 1, h => by rw [List.drop_succ_cons, zdJ b k (by simpa using h), List.getD_cons_succ, List.drop_succ_cons]
theorem zj8 (x : Nat) (b : List Nat) (i : Nat) (hx : x < B64) (hb : Wds b) : ∀ (j k c : Nat) (l : List Nat), j + k = b.length → i + b.length ≤ l.length → Wds l → c < B64 →
  (mIn x b i j k c l).1 < B64 ∧ Wds (mIn x b i j k c l).2 ∧ (mIn x b i j k c l).2.length = l.length ∧ (∀ p, i + b.length ≤ p → (mIn x b i j k c l).2.getD p 0 = l.getD p 0) ∧
  val (mIn x b i j k c l).2 + B64 ^ (i + b.length) * (mIn x b i j k c l).1 = val l + B64 ^ (i + k) * c + B64 ^ (i + k) * (x * val (b.drop k))
 | 0, k, c, l, hj, hl, hw, hc => by
  have hk : k = b.length := by omega
  subst hk
  refine ⟨hc, hw, rfl, fun p _ => rfl, ?_⟩
  simp [mIn, val]
 | j + 1, k, c, l, hj, hl, hw, hc => by
  have hr := zlC hx (hb.get k) (hw.get (i + k)) hc
  have hs : (x * b.getD k 0 + l.getD (i + k) 0 + c) % B64 < B64 := by unfold B64; omega
  obtain ⟨h1, h2, h3, h4, h5⟩ := zj8 x b i hx hb j (k + 1) _ (l.set (i + k) ((x * b.getD k 0 + l.getD (i + k) 0 + c) % B64)) (by omega) (by rw [List.length_set]; exact hl) (hw.set (i + k) hs) hr
  rw [mIn]
  refine ⟨h1, h2, by rw [h3, List.length_set], fun p hp => ?_, ?_⟩
  ·rw [h4 p hp]
   have : i + k ≠ p := by omega
   simp [List.getD_eq_getElem?_getD, List.getElem?_set, this]
  ·rw [h5]
   have hv := zdp l (i + k) ((x * b.getD k 0 + l.getD (i + k) 0 + c) % B64) (by omega)
   have hd := zdJ b k (by omega)
   rw [hd]
   have hm := Nat.mod_add_div (x * b.getD k 0 + l.getD (i + k) 0 + c) B64
   generalize (x * b.getD k 0 + l.getD (i + k) 0 + c) % B64 = r at *
   generalize (x * b.getD k 0 + l.getD (i + k) 0 + c) / B64 = q at *
   generalize val (b.drop (k + 1)) = V at *
   generalize b.getD k 0 = y at *
   generalize l.getD (i + k) 0 = s at *
   rw [show i + (k + 1) = (i + k) + 1 from rfl, Nat.pow_succ]
   generalize B64 ^ (i + k) = M at *
   have e1 : M * (x * y + s + c) = M * (r + B64 * q) := by rw [hm]
   have e2 : M * (x * (y + B64 * V)) = M * (x * y) + M * B64 * (x * V) := by rw [Nat.mul_add, Nat.mul_add, Nat.mul_left_comm x B64 V, ← Nat.mul_assoc M B64]
   have e3 : M * (r + B64 * q) = M * r + M * B64 * q := by rw [Nat.mul_add, ← Nat.mul_assoc]
   rw [e2]
   rw [e3, Nat.mul_add, Nat.mul_add] at e1
   omega
theorem ziI (a b : List Nat) (ha : Wds a) (hb : Wds b) : ∀ (j i : Nat) (l : List Nat), j + i = a.length → a.length + b.length ≤ l.length → Wds l → (∀ p, i + b.length ≤ p → l.getD p 0 = 0) →
  Wds (mOut a b j i l) ∧ (mOut a b j i l).length = l.length ∧ val (mOut a b j i l) = val l + B64 ^ i * (val (a.drop i) * val b)
 | 0, i, l, hj, hl, hw, hz => by
  have : i = a.length := by omega
  subst this
  simp [mOut, val, hw]
 | j + 1, i, l, hj, hl, hw, hz => by
  obtain ⟨h1, h2, h3, h4, h5⟩ := zj8 (a.getD i 0) b i (ha.get i) hb b.length 0 0 l (by omega) (by omega) hw (by decide)
  rw [mOut]
  generalize mIn (a.getD i 0) b i b.length 0 0 l = R at *
  obtain ⟨c, m⟩ := R
  dsimp only at *
  obtain ⟨g1, g2, g3⟩ := ziI a b ha hb j (i + 1) (m.set (i + b.length) c) (by omega) (by rw [List.length_set]; omega) (h2.set _ h1) (fun p hp => by
   have : i + b.length ≠ p := by omega
   have e := h4 p (by omega)
   rw [hz p (by omega)] at e
   simpa [List.getD_eq_getElem?_getD, List.getElem?_set, this] using e)
  refine ⟨g1, by rw [g2, List.length_set, h3], ?_⟩
  rw [g3]
  have hv := zdp m (i + b.length) c (by omega)
  rw [h4 _ (Nat.le_refl _), hz _ (Nat.le_refl _)] at hv
  have hd := zdJ a i (by omega)
  rw [hd]
  simp only [List.drop_zero, Nat.add_zero, Nat.mul_zero] at h5 hv
  rw [Nat.pow_succ]
  generalize val (a.drop (i + 1)) = V at *
  generalize a.getD i 0 = x at *
  generalize B64 ^ (i + b.length) = K at *
  generalize B64 ^ i = M at *
  have e2 : M * ((x + B64 * V) * val b) = M * (x * val b) + M * B64 * (V * val b) := by rw [Nat.add_mul, Nat.mul_add, Nat.mul_assoc B64, ← Nat.mul_assoc M B64]
  rw [e2]
  omega
theorem zkb (a b : List Nat) (n : Nat) (ha : Wds a) (hb : Wds b) (hn : a.length + b.length ≤ n) :
  Wds (mOut a b a.length 0 (List.replicate n 0)) ∧ (mOut a b a.length 0 (List.replicate n 0)).length = n ∧ val (mOut a b a.length 0 (List.replicate n 0)) = val a * val b := by
 obtain ⟨h1, h2, h3⟩ := ziI a b ha hb a.length 0 (List.replicate n 0) (by omega) (by simpa using hn) (fun x hx => by rw [List.eq_of_mem_replicate hx]; decide) (fun p _ => by
  simp only [List.getD_eq_getElem?_getD, List.getElem?_replicate]; split <;> rfl)
 refine ⟨h1, by rw [h2, List.length_replicate], ?_⟩
 rw [h3, zfY]; simp
end Go.Wd
namespace Go.Ab
open Go.RowKit
theorem zir (t : Nat) {P : Program} {L : Ln} {N : Nat} {c : Code} {Q : Exit → St → Prop} {E : List (Nat × AV)} {H : List (Nat × Option Blk)} {n i m T sz : Nat} {es : List (List RV)} (ht : get E t = .ol i m ∨ (get E t = .ow i ∧ m = es.length)) (hi : getH H i = some (.row T sz es)) (hm : m ≤ es.length) (hL : Nat.ble L.n n = true) (hloc : (Nat.blt i L.m || Nat.ble L.n i) = true)
  (h : awp P L N c Q ⟨(t, .ow n) :: E, (n, some (.row T sz (es.take m))) :: (i, none) :: H, n + 1⟩) : awp P L N c Q ⟨E, H, n⟩ := by
 intro C h1 h2 h3 a w ⟨Z, S⟩
 have hD : ∀ i, (fun i => i < (⟨E, H, n⟩ : St).nx) i → i ≠ n := fun i hi e => by subst e; exact absurd hi (Nat.lt_irrefl _)
 have hne : ∀ i b, getH H i = some b → i ≠ n := fun i b hi => hD i (S.holds i b hi).2.1
 have hin := hne i _ hi
 obtain ⟨v, hv⟩ : ∃ v, v = a.tmps.getD t undef := ⟨_, rfl⟩
 have hheld := (S.holds i _ hi).1
 -- the slot's value: its block is that of i; and it is a row
 have hval : (v = Z i ∧ m = es.length) ∨ (∃ g m' cap, Z i = .slice (some ⟨g, 0, none⟩) m' cap ∧ v = .slice (some ⟨g, 0, none⟩) m cap) := by
  have := S.slots t
  rw [← hv] at this
  rcases ht with ht | ⟨ht, hml⟩
  ·rw [show St.envF ⟨E, H, n⟩ t = get E t from rfl, ht, AV.rep] at this
   exact .inr this
  ·rw [show St.envF ⟨E, H, n⟩ t = get E t from rfl, ht, AV.rep] at this
   exact .inl ⟨this, hml⟩
 have hblk : ∀ x, blk v = some x → blk (Z i) = some x := by
  intro x hx
  rcases hval with ⟨e, _⟩ | ⟨g, m', cap, e1, e2⟩
  ·rw [← e]; exact hx
  ·rw [e1]; rw [e2] at hx; exact hx
 let Z' : Nat → Value := fun j => if j = n then v else Z j
 have hz : ∀ j, j ≠ n → Z' j = Z j := fun j hj => if_neg hj
 have hzn : Z' n = v := if_pos rfl
 have hH : ∀ j, St.HF ⟨(t, .ow n) :: E, (n, some (.row T sz (es.take m))) :: (i, none) :: H, n + 1⟩ j = if n = j then some (.row T sz (es.take m)) else if i = j then none else getH H j := fun j => by
  show getH _ j = _
  rw [zfq, zfq]
 have hB : ∀ x, x < w.heap.size → Own C (St.HF ⟨(t, .ow n) :: E, (n, some (.row T sz (es.take m))) :: (i, none) :: H, n + 1⟩) Z' x → Own C (getH H) Z x := by
  rintro x _ (h0 | ⟨j, b, hj, hb⟩)
  ·exact .inl h0
  ·rw [hH] at hj
   split at hj
   ·rename_i e; subst e; rw [hzn] at hb; exact .inr ⟨i, _, hi, hblk x hb⟩
   ·split at hj
    ·cases hj
    ·rename_i e e2; rw [hz j (fun h => e h.symm)] at hb; exact .inr ⟨j, b, hj, hb⟩
 have hnew : held Z' (Own C (St.HF ⟨(t, .ow n) :: E, (n, some (.row T sz (es.take m))) :: (i, none) :: H, n + 1⟩) Z') w n (.row T sz (es.take m)) := by
  obtain ⟨us, ⟨o1, o2⟩, k2, k3⟩ := hheld
  have hfl := zaU sz es k3 m
  refine ⟨us.take (m * sz), ?_, ?_, fun e he => k3 e (List.mem_of_mem_take he)⟩
  ·rw [hzn, List.length_take, Nat.min_eq_left hm]
   refine ⟨by rw [List.length_take, o1]; exact Nat.min_eq_left (Nat.mul_le_mul_right _ hm), ?_⟩
   rcases hval with ⟨e, hml⟩ | ⟨g, m', cap, e1, e2⟩
   ·rcases o2 with ⟨e3, e4⟩ | ⟨g, cap, cur, e3, e4, e5, e6, e7, e8, e9⟩
    ·exact .inl ⟨e.trans e3, by omega⟩
    ·refine .inr ⟨g, cap, cur, by rw [e, e3, hml], e4, e5, by omega, e7, e8, ?_⟩
     rw [← e9, List.take_take, Nat.min_eq_left (Nat.mul_le_mul_right _ hm)]
   ·rcases o2 with ⟨e3, e4⟩ | ⟨g', cap', cur, e3, e4, e5, e6, e7, e8, e9⟩
    ·rw [e3] at e1; cases e1
    ·rw [e3] at e1
     injection e1 with e1 e1' e1''
     injection e1 with e1
     injection e1 with e1
     subst e1 e1''
     refine .inr ⟨g', cap', cur, e2, e4, e5, by omega, e7, e8, ?_⟩
     rw [← e9, List.take_take, Nat.min_eq_left (Nat.mul_le_mul_right _ hm)]
  ·rw [hfl.2]
   exact (k2.take _).mono (Upto.refl _) hB
 refine h C h1 h2 h3 a w ⟨Z', S.size, S.defers, S.frame, S.m0, fun u => ?_, fun u q hq => ?_, fun j b hj => ?_, fun j j' b c hj hj' hjj x hx => ?_, fun j b x hj hx => ?_, S.lm, fun q hq => ?_⟩
 ·show (get ((t, .ow n) :: E) u).rep _ _ _ _
  by_cases hu : t = u
  ·subst hu
   have e : get ((t, AV.ow n) :: E) t = .ow n := by simp [get]
   rw [e, AV.rep, hzn, hv]
  ·have e : get ((t, AV.ow n) :: E) u = get E u := by
    have : Nat.beq t u = false := by cases hb : Nat.beq t u with
     | false => rfl
     | true => exact absurd (Nat.eq_of_beq_eq_true hb) hu
    simp [get, this]
   rw [e]
   exact AV.rep_mono (Upto.refl _) hB _ (fun i hi => hz i (hD i (S.ids u i hi))) _ (S.slots u)
 ·by_cases hu : t = u
  ·subst hu
   have e : St.envF ⟨(t, AV.ow n) :: E, (n, some (.row T sz (es.take m))) :: (i, none) :: H, n + 1⟩ t = .ow n := by simp [St.envF, get]
   rw [e] at hq
   have : q = n := by simpa [AV.ids] using hq
   subst this
   exact Nat.lt_succ_self _
  ·have e : St.envF ⟨(t, AV.ow n) :: E, (n, some (.row T sz (es.take m))) :: (i, none) :: H, n + 1⟩ u = get E u := by
    have : Nat.beq t u = false := by cases hb : Nat.beq t u with
     | false => rfl
     | true => exact absurd (Nat.eq_of_beq_eq_true hb) hu
    simp [St.envF, get, this]
   rw [e] at hq
   exact Nat.lt_succ_of_lt (S.ids u q hq)
 ·rw [hH] at hj
  split at hj
  ·rename_i e
   subst e
   injection hj with hj
   subst hj
   exact ⟨hnew, Nat.lt_succ_self _, fun q hq => by simp [Blk.ids] at hq⟩
  ·split at hj
   ·cases hj
   ·obtain ⟨g1, g2, g3⟩ := S.holds j b hj
    exact ⟨g1.keep (Upto.refl _) hB (hz j (hne j b hj)) (fun q hq => hz q (hD q (g3 q hq))) (fun _ _ => rfl), Nat.lt_succ_of_lt g2, fun q hq => Nat.lt_succ_of_lt (g3 q hq)⟩
 ·rw [hH] at hj hj'
  split at hj
  ·rename_i e
   subst e
   rw [hzn] at hx
   split at hj'
   ·rename_i e; exact absurd e hjj
   ·split at hj'
    ·cases hj'
    ·rename_i e e2
     rw [hz j' (hne j' c hj')]
     exact S.dist i j' _ c hi hj' e2 x (hblk x hx)
  ·split at hj
   ·cases hj
   ·rename_i e0 e2
    rw [hz j (hne j b hj)] at hx
    split at hj'
    ·rename_i e
     subst e
     rw [hzn]
     intro hx'
     exact S.dist j i b _ hj hi (fun h => e2 h.symm) x hx (hblk x hx')
    ·split at hj'
     ·cases hj'
     ·rw [hz j' (hne j' c hj')]
      exact S.dist j j' b c hj hj' hjj x hx
 ·rw [hH] at hj
  split at hj
  ·rename_i e
   subst e
   rw [hzn] at hx
   have hx' := hblk x hx
   rw [Bool.or_eq_true, zbr, zca] at hloc
   rcases hloc with hl | hl
   ·have hl' : i < C.ln.m := by rw [h2]; exact hl
    have := (S.zl i (Nat.lt_of_lt_of_le hl' S.lm)).1
    exact .inr (.inr ⟨i, hl', by rw [← this]; exact hx'⟩)
   ·rcases S.fresh i _ x hi hx' with hf | hf
    ·exfalso
     have hl' : C.nl ≤ i := by show C.ln.n ≤ i; rw [h2]; exact hl
     omega
    ·exact .inr hf
  ·split at hj
   ·cases hj
   ·rw [hz j (hne j b hj)] at hx
    exact S.fresh j b x hj hx
 ·obtain ⟨g1, g2⟩ := S.zl q hq
  exact ⟨(hz q (hD q g2)).trans g1, Nat.lt_succ_of_lt g2⟩
section
variable {P : Program} {L : Ln} {N : Nat} {ops : Array Oper} {chk : List (Nat × Sp) → Bool} {Q : St → Prop} {S : St} {tr : List (Nat × Sp)} {l : List Oper} {d : Option Tmp} {ty : TypeId} {pos : String} {af : Array Edge} {g : Option (Nat × Bool)} {t t2 : TypeId} {x y : Operand}
theorem ze0 {t t2 : TypeId} (h1 : P.underlying t = some (.slice (P.elem t))) (h2 : P.underlying t2 = some (.slice (P.elem t2))) (u v : Value) (w : World) : (Builtin.append_ #[t, t2] ty #[u, v]).run P w = (Builtin.append_ #[t, t] ty #[u, v]).run P w := by
 cases u <;> simp [Builtin.append_, run_underlying h1, run_underlying h2]
theorem zbv (h1 : P.underlying t = some (.slice (P.elem t))) (h2 : P.underlying t2 = some (.slice (P.elem t2)))
  (h : wpA P L N ops chk Q (⟨d, .call { callee := .builtin .append, args := #[x, y], argTypes := #[t, t] }, ty, pos, af, g⟩ :: l) S tr) :
  wpA P L N ops chk Q (⟨d, .call { callee := .builtin .append, args := #[x, y], argTypes := #[t, t2] }, ty, pos, af, g⟩ :: l) S tr := by
 obtain ⟨sp, hs, hr⟩ := h
 refine ⟨sp, ⟨hs.dst, hs.want, fun hrun a w Z M hM ho hh hd => ?_, hs.skip, hs.sp⟩, hr⟩
 have := hs.ok hrun a w Z M hM ho hh hd
 unfold Exec at this ⊢
 have e : (execOp a.eval ⟨d, .call { callee := .builtin .append, args := #[x, y], argTypes := #[t, t2] }, ty, pos, af, g⟩).run P w = (execOp a.eval ⟨d, .call { callee := .builtin .append, args := #[x, y], argTypes := #[t, t] }, ty, pos, af, g⟩).run P w := by
  simp only [execOp, resolve, invoke, builtin, Sem.run_bind, Sem.run_pure, Result.andThen_ok, List.map_toArray, List.map_cons, List.map_nil, ze0 h1 h2]
 rw [e]
 exact this
end
theorem zgc (f g : Nat → Option (Nat × Nat)) : ∀ (vs : List (Nat × Value)) (us : Array Value), (∀ p ∈ vs, f p.1 = g p.1) → Instr.fill f us vs = Instr.fill g us vs
 | [], us, _ => rfl
 | (i, v) :: vs, us, h => by
  have h0 := h (i, v) (by simp)
  simp only at h0
  rw [Instr.fill, Instr.fill, h0]
  cases g i with
  | none => rfl
  | some q =>
   obtain ⟨off, size⟩ := q
   simp only
   split
   ·rfl
   ·exact zgc f g vs _ (fun p hp => h p (by simp [hp]))
theorem zjo {P : Program} {E : List (Nat × AV)} {H : Nat → Option Blk} {d : Option Tmp} {ty : TypeId} {pos : String} {af : Array Edge} {g : Option (Nat × Bool)} {t : TypeId} {n e sz : Nat} {zs : List Value} [hT : ArT P t n e sz] [hz : ZrT P t zs]
  {parts : Array (Nat × Operand)} {cs : List AV} (hf : zgG ((List.range n).map fun i => (i * sz, sz)) (zs.map fun u => .r (.v u)) (parts.toList.map fun p => (p.1, evA (get E) p.2)) = some cs) (ho : (parts.toList.all fun p => zeS [] (evA (get E) p.2)) = true) (hlt : (parts.toList.all fun p => Nat.blt p.1 n) = true) :
  zas P ⟨d, .build t parts, ty, pos, af, g⟩ (get E) H [] (.ag cs) := by
 refine ⟨fun i b h => by simp at h, fun i hi => .inl ?_, fun a w Z M hr hh => ?_⟩
 ·rw [AV.ids] at hi
  refine zfl _ (fun i => ∃ t, i ∈ (get E t).ids) _ _ _ (fun i hi => by rw [zdy] at hi; cases hi) (fun p hp i hi => ?_) hf i hi
  obtain ⟨q, hq, rfl⟩ := List.mem_map.1 hp
  rcases zbL rfl i hi with h | ⟨_, _, h, _⟩
  ·exact h
  ·cases h
 ·have h1 := hz.ok
  obtain ⟨tu, ts⟩ := ArT.und (P := P) (t := t) (n := n) (e := e) (sz := sz)
  cases hi : P.info? t with
  | none => rw [hi] at h1; cases h1
  | some it =>
   rw [hi] at h1
   simp only [Option.map_some, Option.some.injEq] at h1
   cases hzz : it.zero with
   | none => rw [hzz] at h1; cases h1
   | some z =>
    rw [hzz] at h1
    simp only [Option.map_some, Option.some.injEq] at h1
    obtain ⟨us', h3, h4⟩ := zgH (Z := Z) (B := M) (w := w) ((List.range n).map fun i => (i * sz, sz)) _ (parts.toList.map fun p => (p.1, a.eval p.2)) _ cs z.cells (by simp) (fun k p v hk hv => by
     rw [List.getElem?_map] at hk hv
     cases hq : parts.toList[k]? with
     | none => rw [hq] at hk; cases hk
     | some q =>
      rw [hq] at hk hv
      simp only [Option.map_some, Option.some.injEq] at hk hv
      subst hk hv
      have hmem := List.mem_of_getElem? hq
      refine ⟨rfl, ziN (List.all_eq_true.1 ho q hmem) hh (hr q.2 ?_)⟩
      show q.2 ∈ ((parts.toList.map (·.2)).toArray).toList
      simp only [List.toList_toArray]
      exact List.mem_map.2 ⟨q, hmem, rfl⟩) (by rw [h1]; exact zdH zs) hf
    have hcg : Instr.fill (fun i => some (i * sz, sz)) z.cells (parts.toList.map fun p => (p.1, a.eval p.2)) = some us' := by
     rw [← h3]
     refine zgc _ _ _ _ fun p hp => ?_
     obtain ⟨q, hq, rfl⟩ := List.mem_map.1 hp
     have := zbr.1 (List.all_eq_true.1 hlt q hq)
     simp [this]
    have hsz := run_sizeOf (P := P) ts w
    have hzv : (zeroValue t).run P w = .ok z w := by simp [zeroValue, typeInfo, hi, hzz]
    have he : (parts.map fun (i, x) => (i, a.eval x)) = parts.map fun p => (p.1, a.eval p.2) := rfl
    have hb : (Instr.build t (parts.map fun p => (p.1, a.eval p.2))).run P w = .ok (.agg us') w := by
     simp only [Instr.build, Sem.run_bind, hzv, Result.andThen_ok, run_underlying tu, hsz, Array.toList_map, hcg, Sem.run_pure]
    refine ⟨.agg us', ?_, by rw [AV.rep]; exact ⟨us', rfl, h4⟩⟩
    simp only [execOp, he, Sem.run_bind, hb, Result.andThen_ok, Sem.run_pure]
end Go.Ab
namespace Go.Proofs.YtpnbgalbdohfgaaGreatDoor
def I64 (x : Int) : Prop := -9223372036854775808 ≤ x ∧ x < 9223372036854775808
def allR (n : Nat) (f : Nat → Bool) : Bool := (List.range n).all f
theorem zd8 {n : Nat} {f : Nat → Bool} (h : ∀ i, i < n → f i = true) : true = allR n f := by
 unfold allR
 exact (List.all_eq_true.2 fun i hi => h i (List.mem_range.1 hi)).symm
theorem zcE {n : Nat} {f : Nat → Bool} (i : Nat) (h : i < n) (hf : f i = false) : false = allR n f := by
 cases hx : allR n f with
 | false => rfl
 | true =>
  have := List.all_eq_true.1 hx i (List.mem_range.2 h)
  rw [hf] at this; cases this
theorem zdK {α : Type} (l : List α) (k : Nat) (d : α) (h : k < l.length) : l.take (k + 1) = l.take k ++ [l.getD k d] := by
 rw [List.take_succ_eq_append_getElem h]
 simp [h]
end Go.Proofs.YtpnbgalbdohfgaaGreatDoor
namespace Go.Proofs.YtpnbgalbdohfgaaGreatDoor
open Go.RowKit Go.Ab
theorem zl7 {post : List (Option Blk)} {P : Program} {L : Ln} {fn : Func} {S : St} {r s : AV} {cs ds : List AV} {p q ty ty' i j n n' : Nat} {T T' : TypeId} {F F' : List Nat} [hT : AgT P ty n] [hT' : AgT P ty' n'] (G : List Nat) (hrt : Rt (getH S.H) L.n G (.ag cs) r F) (hrs : Rt (getH S.H) L.n G (.ag ds) s F') (hres : fn.results = #[.cell p ty, .cell q ty']) (hp : get S.env p = .pt i 0) (hi : getH S.H i = some (.var T cs)) (hl : cs.length = n) (hq : get S.env q = .pt j 0) (hj : getH S.H j = some (.var T' ds)) (hl' : ds.length = n')
  (hpo : ∀ i b, (i, some b) ∈ zbq 0 post → getH S.H i = some b ∧ b.ids = []) (hn : zdn L (F ++ (F' ++ [])) G = true) : (Exit.ret = .normal ∨ Exit.ret = .ret) ∧ zhg P L fn S (.tu [r, s]) post := by
 obtain ⟨d, h1, h2⟩ := hT.und
 obtain ⟨d', h3, h4⟩ := hT'.und
 refine ⟨.inr rfl, ⟨⟨.tu [.ag cs, .ag ds], _, G, .two _ _ _ _ hres (.agg _ _ _ _ _ _ hp hi h1 h2 ?_) (.agg _ _ _ _ _ _ hq hj h3 h4 ?_), .tu _ _ _ (.cons _ _ _ _ _ _ hrt (.cons _ _ _ _ _ _ hrs .nil)), hn⟩, hpo⟩⟩
 ·rw [hT.size, hl]
 ·rw [hT'.size, hl']
end Go.Proofs.YtpnbgalbdohfgaaGreatDoor
namespace Go.Ab
open Go.RowKit
section
variable {P : Program} {env : Nat → AV} {H : Nat → Option Blk} {d : Option Tmp} {ty : TypeId} {pos : String} {af : Array Edge} {g : Option (Nat × Bool)}
variable {t : TypeId} {x y : Operand} {sz : Nat} {es : List (List RV)} {cs : List AV}
end
def znJ : AV → Bool
 | .ag _ => false
 | _ => true
def zhA (rd : List (Nat × Blk)) (cs : List AV) : Bool := cs.all fun c => zeS rd c && znJ c
def zfJ (H : Nat → Option Blk) : List AV → List (Nat × Blk)
 | [] => []
 | .ow j :: cs => (match H j with | some b => [(j, b)] | none => []) ++ zfJ H cs
 | _ :: cs => zfJ H cs
theorem zg5 {H : Nat → Option Blk} {i : Nat} {b : Blk} : ∀ {cs : List AV}, (i, b) ∈ zfJ H cs → H i = some b
 | [], h => by cases h
 | c :: cs, h => by
  cases c with
  | ow j =>
   rw [zfJ, List.mem_append] at h
   rcases h with h | h
   ·cases hj : H j with
    | none => rw [hj] at h; cases h
    | some b' => rw [hj] at h; obtain ⟨rfl, rfl⟩ := mem1 h; exact hj
   ·exact zg5 h
  | _ => exact zg5 (cs := cs) (by simpa [zfJ] using h)
theorem ziM {Z : Nat → Value} {B : Nat → Prop} {w : World} {rd : List (Nat × Blk)} {c : AV} {v : Value} (ho : (zeS rd c && znJ c) = true) (hh : ∀ i b, (i, b) ∈ rd → held Z B w i b) (hr : c.rep Z B w v) : v.oneCell' = true ∧ v.cells = #[v] := by
 rw [Bool.and_eq_true] at ho
 obtain ⟨h1, h2⟩ := ho
 have hv : valB c = true → v.oneCell' = true ∧ v.cells = #[v] := fun h => by
  have := (zcj hr h).2 (by rintro cs rfl; cases h2)
  exact ⟨this.2, this.1⟩
 cases c with
 | ow i =>
  simp only [zeS, List.any_eq_true, Bool.and_eq_true] at h1
  obtain ⟨⟨j, b⟩, h3, h4, _⟩ := h1
  have := Nat.eq_of_beq_eq_true h4
  simp only at this
  subst this
  rw [AV.rep] at hr
  subst hr
  exact zmI (hh _ _ h3)
 | _ => exact hv h1
theorem zhB {Z : Nat → Value} {B : Nat → Prop} {w : World} {rd : List (Nat × Blk)} (hh : ∀ i b, (i, b) ∈ rd → held Z B w i b) : ∀ {cs : List AV} {us : List Value}, zhA rd cs = true → AV.reps Z B w cs us → us.all (·.oneCell') = true
 | [], us, _, h => by rw [AV.reps] at h; subst h; rfl
 | c :: cs, us, ho, h => by
  rw [AV.reps] at h
  obtain ⟨u, us', rfl, h1, h2⟩ := h
  rw [zhA, List.all_cons, Bool.and_eq_true] at ho
  rw [List.all_cons, (ziM ho.1 hh h1).1, zhB hh ho.2 h2]
  rfl
structure zhf (env : Nat → AV) (H : Nat → Option Blk) (y : Operand) (ds : List AV) (rd : List (Nat × Blk)) : Prop where
 ex : ∃ a, evA env y = a ∧ ds = zaM a
 rdE : zfJ H ds = rd
 ok : zhA rd ds = true
section
variable {env : Nat → AV} {H : Nat → Option Blk} {y : Operand} {ds : List AV} {rd : List (Nat × Blk)}
theorem zhf.of {a : AV} (hx : evA env y = a) (hr : zfJ H (zaM a) = rd) (ho : zhA rd (zaM a) = true) : zhf env H y (zaM a) rd := ⟨⟨a, hx, rfl⟩, hr, ho⟩
theorem zhf.rdH (h : zhf env H y ds rd) : ∀ i b, (i, b) ∈ rd → H i = some b := fun i b hi => zg5 (by rw [h.rdE]; exact hi)
theorem zhf.ids (h : zhf env H y ds rd) : ∀ i ∈ AV.idss ds, (∃ t, i ∈ (env t).ids) := by
 intro i hi
 obtain ⟨a, h1, rfl⟩ := h.ex
 rcases zbL h1 i (zdx i hi) with h | ⟨_, _, h, _⟩
 ·exact h
 ·exact zaQ h
theorem zhf.rep (h : zhf env H y ds rd) {Z : Nat → Value} {M : Nat → Prop} {w : World} {v : Value} (hr : (evA env y).rep Z M w v) (hh : ∀ i b, (i, b) ∈ rd → held Z M w i b) : AV.reps Z M w ds v.cells.toList ∧ v.cells.toList.all (·.oneCell') = true := by
 obtain ⟨a, h1, rfl⟩ := h.ex
 have h2 := h.ok
 rw [h1] at hr
 have h3 : AV.reps Z M w (zaM a) v.cells.toList := by
  cases a with
  | ag cs => exact (zcj hr rfl).1
  | _ =>
   simp only [zaM, zhA, List.all_cons, List.all_nil, Bool.and_true] at h2 ⊢
   have := ziM (by first | exact h2 | simpa using h2) hh hr
   rw [this.2]
   show AV.reps Z M w [_] [v]
   rw [AV.reps]
   exact ⟨_, _, rfl, hr, by rw [AV.reps]⟩
 exact ⟨h3, zhB hh h2 h3⟩
end
section
variable {P : Program} {L : Ln} {N : Nat} {ops : Array Oper} {chk : List (Nat × Sp) → Bool} {Q : St → Prop} {l : List Oper} {E : List (Nat × AV)} {H : List (Nat × Option Blk)} {n : Nat} {tr : List (Nat × Sp)}
variable {d : Nat} {ty : TypeId} {pos : String} {af : Array Edge} {g : Option (Nat × Bool)} {t : TypeId} {x y : Operand}
end
/-! ## Other numbers -/
mutual
def AV.ren (f : Nat → Nat) : AV → AV
 | .ow i => .ow (f i)
 | .pt i o => .pt (f i) o
 | .pe i sz k q => .pe (f i) sz k q
 | .ol i n => .ol (f i) n
 | .sv i n => .sv (f i) n
 | .so i o n c => .so (f i) o n c
 | .cl g cs => .cl g (AV.rens f cs)
 | .ag cs => .ag (AV.rens f cs)
 | .tu cs => .tu (AV.rens f cs)
 | .r c => .r c
 | .rp cs => .rp cs
 | .fr T sz es => .fr T sz es
 | .na => .na
def AV.rens (f : Nat → Nat) : List AV → List AV
 | [] => []
 | c :: cs => AV.ren f c :: AV.rens f cs
end
section
variable {Z Z' : Nat → Value} {B B' : Nat → Prop} {w : World} {f : Nat → Nat}
mutual
theorem AV.rep_ren (hB : ∀ k, k < w.heap.size → B' k → B k) : ∀ (c : AV) (_ : ∀ i ∈ c.ids, Z' (f i) = Z i) (u : Value), AV.rep Z B w c u → AV.rep Z' B' w (c.ren f) u
 | .r c, _, u, h => by rw [AV.rep] at h; rw [AV.ren, AV.rep]; exact RV.rep_mono (Upto.refl _) hB c u h
 | .rp cs, _, u, h => AV.rep_mono (Upto.refl _) hB (.rp cs) (fun i hi => by simp [AV.ids] at hi) _ h
 | .ow i, hz, u, h => by rw [AV.rep] at h; rw [AV.ren, AV.rep, hz i (by simp [AV.ids])]; exact h
 | .pt i o, hz, u, h => by rw [AV.rep] at h; rw [AV.ren, AV.rep, hz i (by simp [AV.ids])]; exact h
 | .pe i sz k q, hz, u, h => by rw [AV.rep] at h; rw [AV.ren, AV.rep, hz i (by simp [AV.ids])]; exact h
 | .ol i n, hz, u, h => by rw [AV.rep] at h; rw [AV.ren, AV.rep, hz i (by simp [AV.ids])]; exact h
 | .sv i n, hz, u, h => by rw [AV.rep] at h; rw [AV.ren, AV.rep, hz i (by simp [AV.ids])]; exact h
 | .so i o n c, hz, u, h => by rw [AV.rep] at h; rw [AV.ren, AV.rep, hz i (by simp [AV.ids])]; exact h
 | .fr _ _ _, _, u, h => by rw [AV.rep] at h; exact h.elim
 | .na, _, u, h => by rw [AV.ren, AV.rep]; trivial
 | .ag cs, hz, u, h => by
  rw [AV.rep] at h; rw [AV.ren, AV.rep]
  obtain ⟨us, e, h⟩ := h
  exact ⟨us, e, AV.reps_ren hB cs (by simpa [AV.ids] using hz) _ h⟩
 | .cl g cs, hz, u, h => by
  rw [AV.rep] at h; rw [AV.ren, AV.rep]
  obtain ⟨us, e, h⟩ := h
  exact ⟨us, e, AV.reps_ren hB cs (by simpa [AV.ids] using hz) _ h⟩
 | .tu cs, hz, u, h => by
  rw [AV.rep] at h; rw [AV.ren, AV.rep]
  obtain ⟨us, e, h⟩ := h
  exact ⟨us, e, AV.reps_ren hB cs (by simpa [AV.ids] using hz) _ h⟩
theorem AV.reps_ren (hB : ∀ k, k < w.heap.size → B' k → B k) : ∀ (cs : List AV) (_ : ∀ i ∈ AV.idss cs, Z' (f i) = Z i) (us : List Value), AV.reps Z B w cs us → AV.reps Z' B' w (AV.rens f cs) us
 | [], _, us, h => by rw [AV.reps] at h; rw [AV.rens, AV.reps]; exact h
 | c :: cs, hz, us, h => by
  rw [AV.reps] at h; rw [AV.rens, AV.reps]
  obtain ⟨u, us', e, h1, h2⟩ := h
  exact ⟨u, us', e, AV.rep_ren hB c (fun i hi => hz i (by simp [AV.idss, hi])) u h1, AV.reps_ren hB cs (fun i hi => hz i (by simp [AV.idss, hi])) us' h2⟩
end
end
mutual
theorem AV.ren_ids (f : Nat → Nat) : ∀ (c : AV), (c.ren f).ids = c.ids.map f
 | .r c => rfl
 | .rp cs => rfl
 | .ow i => rfl
 | .pt i o => rfl
 | .pe i sz k q => rfl
 | .ol i n => rfl
 | .sv i n => rfl
 | .so i o n c => rfl
 | .fr _ _ _ => rfl
 | .na => rfl
 | .ag cs => by rw [AV.ren, AV.ids, AV.ids]; exact AV.rens_ids f cs
 | .cl g cs => by rw [AV.ren, AV.ids, AV.ids]; exact AV.rens_ids f cs
 | .tu cs => by rw [AV.ren, AV.ids, AV.ids]; exact AV.rens_ids f cs
theorem AV.rens_ids (f : Nat → Nat) : ∀ (cs : List AV), AV.idss (AV.rens f cs) = (AV.idss cs).map f
 | [] => rfl
 | c :: cs => by rw [AV.rens, AV.idss, AV.idss, List.map_append, AV.ren_ids f c, AV.rens_ids f cs]
end
def Blk.ren (f : Nat → Nat) : Blk → Blk
 | .var T cs => .var T (AV.rens f cs)
 | .rowo T sz es cs => .rowo T sz es (AV.rens f cs)
 | b => b
theorem Blk.ren_ids (f : Nat → Nat) (b : Blk) : (b.ren f).ids = b.ids.map f := by
 cases b with
 | var T cs => exact AV.rens_ids f cs
 | rowo T sz es cs => exact AV.rens_ids f cs
 | _ => rfl
/-! ## New slices in what the lent variables hold then -/
def zfU : Blk → Nat → Blk × List Blk
 | .var T cs, k => (.var T (AV.unfrs cs k).1, (AV.unfrs cs k).2)
 | .rowo T sz es cs, k => (.rowo T sz es (AV.unfrs cs k).1, (AV.unfrs cs k).2)
 | .row T sz es, _ => (.row T sz es, [])
 | .full T sz es, _ => (.full T sz es, [])
 | .rowk T sz es n c, _ => (.rowk T sz es n c, [])
 | .mp l, _ => (.mp l, [])
 | .obj o, _ => (.obj o, [])
 | .gl g o, _ => (.gl g o, [])
def zfV : List (Option Blk) → Nat → List (Option Blk) × List Blk
 | [], _ => ([], [])
 | none :: l, k => (none :: (zfV l k).1, (zfV l k).2)
 | some b :: l, k => (some (zfU b k).1 :: (zfV l (k + (zfU b k).2.length)).1, (zfU b k).2 ++ (zfV l (k + (zfU b k).2.length)).2)
/-! ## The contract from the walk -/
inductive RtB (H : Nat → Option Blk) (L : Nat) (G : List Nat) : Blk → Blk → List Nat → Prop
 | row (T sz es) : RtB H L G (.row T sz es) (.row T sz es) []
 | full (T sz es) : RtB H L G (.full T sz es) (.full T sz es) []
 | rowk (T sz es n c) : RtB H L G (.rowk T sz es n c) (.rowk T sz es n c) []
 | mp (l) : RtB H L G (.mp l) (.mp l) []
 | obj (o) : RtB H L G (.obj o) (.obj o) []
 | gl (g o) : RtB H L G (.gl g o) (.gl g o) []
 | var (T cs ds F) : RtL H L G cs ds F → RtB H L G (.var T cs) (.var T ds) F
 | rowo (T sz es cs ds F) : RtL H L G cs ds F → RtB H L G (.rowo T sz es cs) (.rowo T sz es ds) F
inductive RtP (H : Nat → Option Blk) (L : Nat) (G : List Nat) : Nat → List (Option Blk) → List Nat → Prop
 | nil (i) : RtP H L G i [] []
 | no (i l F) : RtP H L G (i + 1) l F → RtP H L G i (none :: l) F
 | so (i l b' b F F') : H i = some b' → RtB H L G b' b F → RtP H L G (i + 1) l F' → RtP H L G i (some b :: l) (F ++ F')
section
variable {H : Nat → Option Blk} {L : Nat} {G : List Nat} {Z Z' : Nat → Value} {B B' : Nat → Prop} {w : World}
theorem RtB.nums {b' b : Blk} {F : List Nat} (h : RtB H L G b' b F) (k : Nat) : (zfU b k).2.length = F.length ∧ ∀ (j : Nat) (c : Blk), (zfU b k).2[j]? = some c → ∃ i T sz es, F[j]? = some i ∧ H i = some c ∧ c = .row T sz es := by
 cases h with
 | var T cs ds F h => exact h.nums k
 | rowo T sz es cs ds F h => exact h.nums k
 | _ => simp [zfU]
theorem RtP.nums : ∀ {i : Nat} {l : List (Option Blk)} {F : List Nat} (_ : RtP H L G i l F) (k : Nat), (zfV l k).2.length = F.length ∧ ∀ (j : Nat) (c : Blk), (zfV l k).2[j]? = some c → ∃ i T sz es, F[j]? = some i ∧ H i = some c ∧ c = .row T sz es
 | _, _, _, .nil i, k => by simp [zfV]
 | _, _, _, .no i l F h, k => RtP.nums h k
 | _, _, _, .so i l b' b F F' h0 h1 h2, k => by
  rw [zfV]
  obtain ⟨e1, g1⟩ := h1.nums k
  obtain ⟨e2, g2⟩ := RtP.nums h2 (k + (zfU b k).2.length)
  refine ⟨by rw [List.length_append, List.length_append, e2, e1], fun j c hc => ?_⟩
  rcases Nat.lt_or_ge j (zfU b k).2.length with hj | hj
  ·rw [List.getElem?_append_left hj] at hc
   obtain ⟨q, T, sz, es, h3, h4⟩ := g1 j c hc
   exact ⟨q, T, sz, es, by rw [List.getElem?_append_left (by omega)]; exact h3, h4⟩
  ·rw [List.getElem?_append_right hj] at hc
   obtain ⟨q, T, sz, es, h3, h4⟩ := g2 _ c hc
   exact ⟨q, T, sz, es, by rw [List.getElem?_append_right (by omega), ← e1]; exact h3, h4⟩
theorem RtL.len : ∀ {as ds : List AV} {F : List Nat}, RtL H L G as ds F → as.length = ds.length
 | _, _, _, .nil => rfl
 | _, _, _, .cons _ _ _ _ _ _ _ h => by rw [List.length_cons, List.length_cons, h.len]
theorem zhK : ∀ (ds : List AV) (k : Nat), (AV.unfrs ds k).1.length = ds.length
 | [], k => rfl
 | d :: ds, k => by rw [AV.unfrs, List.length_cons, List.length_cons, zhK ds _]
theorem RtB.held {i i' : Nat} {b' b : Blk} {F : List Nat} (h : RtB H L G b' b F) (hh : held Z B w i b') (hz : Z' i' = Z i) (hB : ∀ k, k < w.heap.size → B' k → B k) (hG : ∀ j b, j ∈ G → H j = some b → Go.Ab.held Z B w j b ∧ ∀ x, blk (Z j) = some x → ¬ B' x) (hL : ∀ i, i < L → Z' i = Z i)
  (k : Nat) (hk : ∀ (j q : Nat), F[j]? = some q → Z' (k + j) = Z q) : Go.Ab.held Z' B' w i' (zfU b k).1 := by
 cases h with
 | row T sz es => exact zaE hh hz rfl hB
 | full T sz es => exact zaE hh hz rfl hB
 | rowk T sz es n c => exact zaE hh hz rfl hB
 | mp l => exact zaE hh hz rfl hB
 | obj o => exact zaE hh hz rfl hB
 | gl g o => exact zaE hh hz rfl hB
 | var T cs ds F h =>
  obtain ⟨q, us, h1, h2, h3, h4⟩ := hh
  exact ⟨q, us, hz.trans h1, h2, h.reps hB hG hL k hk _ h3, h4⟩
 | rowo T sz es cs ds F h =>
  obtain ⟨us, vs, h1, h2, h3, h4, h5, h6⟩ := hh
  exact ⟨us, vs, by rw [hz]; exact h1, h2.mono (Upto.refl _) hB, h.reps hB hG hL k hk _ h3, h4, by rw [zhK, ← h.len]; exact h5, h6⟩
theorem RtP.get : ∀ {i : Nat} {l : List (Option Blk)} {F : List Nat} (_ : RtP H L G i l F) (k : Nat) {q : Nat} {c : Blk}, (q, some c) ∈ zbq i (zfV l k).1 → ∃ b' b F' k', H q = some b' ∧ RtB H L G b' b F' ∧ c = (zfU b (k + k')).1 ∧ ∀ (j x : Nat), F'[j]? = some x → F[k' + j]? = some x
 | _, _, _, .nil i, k, q, c, h => by cases h
 | _, _, _, .no i l F h, k, q, c, hq => by
  rw [zfV, zbq, List.mem_cons] at hq
  rcases hq with e | hq
  ·cases e
  ·exact RtP.get h k hq
 | _, _, _, .so i l b' b F F' h0 h1 h2, k, q, c, hq => by
  rw [zfV, zbq, List.mem_cons] at hq
  have e1 := (h1.nums k).1
  rcases hq with e | hq
  ·injection e with e2 e3
   injection e3 with e3
   subst e2 e3
   refine ⟨b', b, F, 0, h0, h1, rfl, fun j x hj => ?_⟩
   rw [Nat.zero_add, List.getElem?_append_left (zbA hj)]
   exact hj
  ·obtain ⟨c', d, F2, k', g1, g2, g3, g4⟩ := RtP.get h2 _ hq
   refine ⟨c', d, F2, F.length + k', g1, g2, by rw [g3, e1, Nat.add_assoc], fun j x hj => ?_⟩
   have := g4 j x hj
   rw [List.getElem?_append_right (by omega), show F.length + k' + j - F.length = k' + j by omega]
   exact this
end
def zlB (L : Ln) (F G : List Nat) : Bool := (F.all fun i => Nat.ble L.n i || Nat.blt i L.m) && (G.all fun i => Nat.beq L.m 0 && Nat.ble L.n i && F.all fun j => !Nat.beq i j) && decide F.Nodup
structure zoj (P : Program) (L : Ln) (fn : Func) (S : St) (r : AV) (post : List (Option Blk)) : Prop where
 ex : ∃ x F F' G, ResA P S fn x ∧ Rt S.HF L.n G x r F ∧ RtP S.HF L.n G 0 post F' ∧ zlB L (F ++ F') G = true
/-! ## A call by such a contract -/
inductive CfBs (H : Nat → Option Blk) (ρ : Nat → Nat) : List Blk → List Blk → Prop
 | nil : CfBs H ρ [] []
 | cons (a d as ds) : CfB H ρ [] a d → CfBs H ρ as ds → CfBs H ρ (a :: as) (d :: ds)
theorem CfBs.get {H : Nat → Option Blk} {ρ : Nat → Nat} : ∀ {as ds : List Blk}, CfBs H ρ as ds → ∀ {q : Nat} {b : Blk}, ds[q]? = some b → ∃ b', as[q]? = some b' ∧ CfB H ρ [] b' b
 | _, _, .nil, q, b, h => by simp at h
 | _, _, .cons a d as ds h1 h2, 0, b, h => by simp at h; subst h; exact ⟨a, rfl, h1⟩
 | _, _, .cons a d as ds h1 h2, q + 1, b, h => by simpa using h2.get (by simpa using h)
theorem CfBs.len {H : Nat → Option Blk} {ρ : Nat → Nat} : ∀ {as ds : List Blk}, CfBs H ρ as ds → as.length = ds.length
 | _, _, .nil => rfl
 | _, _, .cons _ _ _ _ _ h => by rw [List.length_cons, List.length_cons, h.len]
theorem CfB.heldG {H : Nat → Option Blk} {ρ : Nat → Nat} {G : List Nat} {Z Z' : Nat → Value} {B B' : Nat → Prop} {w : World} {i i' : Nat} {b' b : Blk} (h2 : CfB H ρ G b' b) (h3 : held Z B w i b') (hz : Z' i' = Z i) (hid : ∀ j ∈ b.ids, Z' j = Z (ρ j)) (hB : ∀ q, q < w.heap.size → B' q → B q) (hG : ∀ j b, j ∈ G → H j = some b → Go.Ab.held Z B w j b ∧ ∀ x, blk (Z j) = some x → ¬ B' x) : Go.Ab.held Z' B' w i' b := by
 cases h2 with
 | row T sz es => exact zaE h3 hz rfl hB
 | full T sz es => exact zaE h3 hz rfl hB
 | rowk T sz es n c => exact zaE h3 hz rfl hB
 | mp l => exact zaE h3 hz rfl hB
 | obj o => exact zaE h3 hz rfl hB
 | gl g o => exact zaE h3 hz rfl hB
 | var T cs ds hc =>
  obtain ⟨q, us, g1, g2, g3, g4⟩ := h3
  exact ⟨q, us, hz.trans g1, g2, CfL.reps hB hG hc hid _ g3, g4⟩
 | rowo T sz es cs ds hc =>
  obtain ⟨us, vs, g1, g2, g3, g4, g5, g6⟩ := h3
  exact ⟨us, vs, by rw [hz]; exact g1, g2.mono (Upto.refl _) hB, CfL.reps hB hG hc hid _ g3, g4, by rw [← hc.len]; exact g5, g6⟩
 | rowc T sz es cs e hc =>
  obtain ⟨us, vs, g1, g2, g3, g4, g5, g6⟩ := h3
  have g7 := CfL.reps (Z' := Z') hB hG hc (fun i hi => by
   rw [zcx] at hi
   obtain ⟨c, hc, hci⟩ := hi
   obtain ⟨c', _, rfl⟩ := List.mem_map.1 hc
   simp [AV.ids] at hci) _ g3
  have g8 := hc.len
  rw [List.length_map] at g8
  refine ⟨us ++ vs, by rw [List.length_append, hz]; exact g1, ?_, fun x hx => ?_⟩
  ·rw [List.flatten_append]
   refine (g2.mono (Upto.refl _) hB).append ?_
   rw [show [e].flatten = e by simp]
   exact zdo e g7 g6
  ·rcases List.mem_append.1 hx with hx | hx
   ·exact g4 x hx
   ·rw [List.mem_singleton] at hx; subst hx; omega
theorem CfB.held {H : Nat → Option Blk} {ρ : Nat → Nat} {Z Z' : Nat → Value} {B B' : Nat → Prop} {w : World} {i i' : Nat} {b' b : Blk} (h2 : CfB H ρ [] b' b) (h3 : held Z B w i b') (hz : Z' i' = Z i) (hid : ∀ j ∈ b.ids, Z' j = Z (ρ j)) (hB : ∀ q, q < w.heap.size → B' q → B q) : Go.Ab.held Z' B' w i' b := h2.heldG h3 hz hid hB fun j b h => by cases h
section
variable {P : Program} {L : Ln} {N : Nat} {ops : Array Oper} {chk : List (Nat × Sp) → Bool} {Q : St → Prop} {l : List Oper} {E : List (Nat × AV)} {H : List (Nat × Option Blk)} {n : Nat} {tr : List (Nat × Sp)}
variable {d : Nat} {ty : TypeId} {pos : String} {af : Array Edge} {g : Option (Nat × Bool)}
end
abbrev Fam := List (Value × Blk)
def famH (K : Nat) (H : Nat → Option Blk) (F : Fam) (i : Nat) : Option Blk := if i < K then H i else (F[i - K]?).map (·.2)
structure SimK (C : Cx) (S : St) (F : Fam) (a : Act) (w : World) (Z : Nat → Value) (K : Nat) : Prop where
 le : S.nx ≤ K
 top : ∀ i, S.nx ≤ i → S.HF i = none
 eid : ∀ t, ∀ i ∈ (S.envF t).ids, i < S.nx
 bid : ∀ i b, S.HF i = some b → ∀ j ∈ b.ids, j < S.nx
 fam : ∀ j p, F[j]? = some p → Z (K + j) = p.1 ∧ p.2.ids = []
 sim : SimF C (fun i => i < S.nx ∨ (K ≤ i ∧ i < K + F.length)) S.envF (famH K S.HF F) Z a w
def SimX (C : Cx) (S : St) (F : Fam) (a : Act) (w : World) : Prop := ∃ Z K, SimK C S F a w Z K
theorem zeD {K : Nat} {H : Nat → Option Blk} {F : Fam} {i : Nat} (h : i < K) : famH K H F i = H i := if_pos h
theorem zjU {K : Nat} {H : Nat → Option Blk} {F : Fam} {j : Nat} : famH K H F (K + j) = (F[j]?).map (·.2) := by
 unfold famH; rw [if_neg (by omega), Nat.add_sub_cancel_left]
theorem zaT {K : Nat} {H : Nat → Option Blk} {F : Fam} {i : Nat} {b : Blk} (h : famH K H F i = some b) : (i < K ∧ H i = some b) ∨ ∃ j p, i = K + j ∧ F[j]? = some p ∧ p.2 = b := by
 unfold famH at h
 split at h
 ·rename_i hi; exact .inl ⟨hi, h⟩
 ·rename_i hi
  rw [Option.map_eq_some_iff] at h
  obtain ⟨p, h1, h2⟩ := h
  exact .inr ⟨i - K, p, by omega, h1, h2⟩
section
variable {C : Cx} {S : St} {F : Fam} {a : Act} {w : World} {Z : Nat → Value} {K : Nat}
theorem SimK.hf (h : SimK C S F a w Z K) {i : Nat} {b : Blk} (hi : S.HF i = some b) : i < S.nx ∧ famH K S.HF F i = some b := by
 have h1 : i < S.nx := by
  rcases Nat.lt_or_ge i S.nx with h' | h'
  ·exact h'
  ·rw [h.top i h'] at hi; cases hi
 exact ⟨h1, by rw [zeD (Nat.lt_of_lt_of_le h1 h.le)]; exact hi⟩
theorem SimK.fm (h : SimK C S F a w Z K) {j : Nat} {p : Value × Blk} (hj : F[j]? = some p) : famH K S.HF F (K + j) = some p.2 := by rw [zjU, hj]; rfl
theorem SimX.sim (h : SimX C S [] a w) : Sim C S a w := by
 obtain ⟨Z, K, h⟩ := h
 have e : famH K S.HF [] = S.HF := by
  funext i
  unfold famH
  split
  ·rfl
  ·rename_i hi; rw [h.top i (by have := h.le; omega)]; rfl
 have hs := h.sim
 rw [e] at hs
 exact ⟨Z, hs.monoD fun i hi => by rcases hi with hi | hi
                                   · exact hi
                                   · simp at hi; omega⟩
/-! ## What a piece of code does not see, it leaves -/
theorem SimK.frame (hl : C.ln = ⟨0, 0⟩) (hfull : ∀ i, i < S.nx → ∃ b, S.HF i = some b) (h : SimK C S F a w Z K) :
  ∃ C1 : Cx, C1.P = C.P ∧ C1.N = C.N ∧ C1.ln = ⟨S.nx, S.nx⟩ ∧ Sim C1 S a w ∧ ∀ S' a' w', Sim C1 S' a' w' → ∃ Z' K', SimK C S' F a' w' Z' K' ∧ S.nx ≤ S'.nx ∧ (∀ i, i < S.nx → Z' i = Z i) ∧
   Upto (Own C (famH K S.HF F) Z) w w' ∧ ∀ k, k < w.heap.size → Own C (famH K' S'.HF F) Z' k → Own C (famH K S.HF F) Z k := by
 have hs := h.sim
 have hnl : C.nl = 0 := by unfold Cx.nl; rw [hl]
 have hm0 : C.ln.m = 0 := by rw [hl]
 refine ⟨⟨C.P, w, Own C (famH K S.HF F) Z, Z, ⟨S.nx, S.nx⟩, C.N, C.df⟩, rfl, rfl, rfl, ⟨Z, hs.size, hs.defers, Upto.refl _, hs.m_lt, fun t => ?_, h.eid, fun i b hb => ?_, fun i j b c hi hj hij => hs.dist i j b c (h.hf hi).2 (h.hf hj).2 hij, fun i b x hi hx => .inl (h.hf hi).1, Nat.le_refl _, fun i hi => ⟨rfl, hi⟩⟩, ?_⟩
 ·refine AV.rep_mono (Upto.refl _) (fun k _ hk => ?_) _ (fun _ _ => rfl) _ (hs.slots t)
  rcases hk with hk | ⟨i, b, hi, hx⟩
  ·exact hk
  ·exact .inr ⟨i, b, (h.hf hi).2, hx⟩
 ·refine ⟨((hs.holds i b (h.hf hb).2).1).anti fun k _ hk => ?_, (h.hf hb).1, fun j hj => h.bid i b hb j hj⟩
  rcases hk with hk | ⟨i, b, hi, hx⟩
  ·exact hk
  ·exact .inr ⟨i, b, (h.hf hi).2, hx⟩
 ·rintro S' a' w' ⟨Z', h'⟩
  have nlx : ∀ i, i < S.nx → ∃ b, famH K S.HF F i = some b := fun i hi => by
   obtain ⟨b, hb⟩ := hfull i hi
   exact ⟨b, (h.hf hb).2⟩
  -- what S' owns of what was there, S owned
  have old : ∀ i b x, S'.HF i = some b → blk (Z' i) = some x → (∃ q c, q < S.nx ∧ famH K S.HF F q = some c ∧ blk (Z q) = some x) ∨ w.heap.size ≤ x := by
   intro i b x hi hx
   rcases h'.fresh i b x hi hx with h1 | h1 | ⟨j, h1, h2⟩
   ·have h1 : i < S.nx := h1
    obtain ⟨c, hc⟩ := nlx i h1
    have e : Z' i = Z i := (h'.zl i h1).1
    exact .inl ⟨i, c, h1, hc, by rw [← e]; exact hx⟩
   ·exact .inr h1
   ·have h1 : j < S.nx := h1
    obtain ⟨c, hc⟩ := nlx j h1
    exact .inl ⟨j, c, h1, hc, h2⟩
  have top : ∀ i, S'.nx ≤ i → S'.HF i = none := fun i hi => by
   cases hb : S'.HF i with
   | none => rfl
   | some b => have := (h'.holds i b hb).2.1; omega
  have lo : ∀ i b, S'.HF i = some b → i < S'.nx := fun i b hi => (h'.holds i b hi).2.1
  generalize hZ : (fun i => if i < S'.nx then Z' i else Z (K + (i - S'.nx))) = Z2
  have z1 : ∀ i, i < S'.nx → Z2 i = Z' i := fun i hi => by rw [← hZ]; exact if_pos hi
  have z2 : ∀ j, Z2 (S'.nx + j) = Z (K + j) := fun j => by rw [← hZ]; simp only; rw [if_neg (by omega), Nat.add_sub_cancel_left]
  have flt : ∀ j p x, F[j]? = some p → blk (Z (K + j)) = some x → x < w.heap.size := fun j p x hj hx => (hs.holds _ _ (h.fm hj)).1.lt hx
  have hB2 : ∀ k, Own C (famH S'.nx S'.HF F) Z2 k → Own ⟨C.P, w, Own C (famH K S.HF F) Z, Z, ⟨S.nx, S.nx⟩, C.N, C.df⟩ S'.HF Z' k := by
   rintro k (hk | ⟨i, b, hi, hx⟩)
   ·exact .inl (.inl hk)
   ·rcases zaT hi with ⟨h1, h2⟩ | ⟨j, p, rfl, h2, h3⟩
    ·rw [z1 i h1] at hx
     exact .inr ⟨i, b, h2, hx⟩
    ·rw [z2] at hx
     exact .inl (.inr ⟨K + j, _, h.fm h2, hx⟩)
  have hB1 : ∀ k, k < w.heap.size → Own C (famH S'.nx S'.HF F) Z2 k → Own C (famH K S.HF F) Z k := by
   rintro k hkl (hk | ⟨i, b, hi, hx⟩)
   ·exact .inl hk
   ·rcases zaT hi with ⟨h1, h2⟩ | ⟨j, p, rfl, h2, h3⟩
    ·rw [z1 i h1] at hx
     rcases old i b k h2 hx with ⟨q, c, _, h3, h4⟩ | h3
     ·exact .inr ⟨q, c, h3, h4⟩
     ·omega
    ·rw [z2] at hx
     exact .inr ⟨K + j, _, h.fm h2, hx⟩
  have hU : Upto (Own C (famH K S.HF F) Z) w w' := h'.frame.mono fun x _ ⟨i, hi, hx⟩ => by
   obtain ⟨b, hb⟩ := nlx i hi
   exact .inr ⟨i, b, hb, hx⟩
  have hnx : S.nx ≤ S'.nx := by
   rcases Nat.lt_or_ge S'.nx S.nx with h9 | h9
   ·exact absurd (h'.zl S'.nx h9).2 (Nat.lt_irrefl _)
   ·exact h9
  refine ⟨Z2, S'.nx, ?_, hnx, fun i hi => (z1 i (Nat.lt_of_lt_of_le hi hnx)).trans (h'.zl i hi).1, hU, hB1⟩
  refine ⟨Nat.le_refl _, top, h'.ids, fun i b hb => (h'.holds i b hb).2.2, fun j p hj => ⟨by rw [z2]; exact (h.fam j p hj).1, (h.fam j p hj).2⟩, h'.size, h'.defers, ?_, hs.m0, fun t => ?_, fun t i hi => .inl (h'.ids t i hi), fun i b hi => ?_, fun i j b c hi hj hij x hx hx2 => ?_, fun i b x hi hx => ?_, hs.lm, fun i hi => by omega⟩
  ·refine ⟨h'.frame.os.trans hs.frame.os, h'.frame.tape.trans hs.frame.tape, h'.frame.output.trans hs.frame.output, Nat.le_trans hs.frame.size h'.frame.size, fun x hx hxl => ?_⟩
   refine (h'.frame.block x (Nat.lt_of_lt_of_le hx hs.frame.size) ?_).trans (hs.frame.block x hx hxl)
   rintro ⟨i, hi, hix⟩
   obtain ⟨b, hb⟩ := nlx i hi
   rcases hs.fresh i b x hb hix with h1 | h1 | ⟨j, h1, _⟩
   ·omega
   ·omega
   ·omega
  ·exact AV.rep_mono (Upto.refl _) (fun k _ hk => hB2 k hk) _ (fun i hi => z1 i (h'.ids t i hi)) _ (h'.slots t)
  ·rcases zaT hi with ⟨h1, h2⟩ | ⟨j, p, rfl, h2, rfl⟩
   ·exact ⟨(h'.holds i b h2).1.keep (Upto.refl _) (fun k _ hk => hB2 k hk) (z1 i h1) (fun q hq => z1 q ((h'.holds i b h2).2.2 q hq)) (fun _ _ => rfl), .inl h1, fun q hq => .inl ((h'.holds i b h2).2.2 q hq)⟩
   ·obtain ⟨f1, f2⟩ := h.fam j p h2
    have g1 := (hs.holds _ _ (h.fm h2)).1
    have g2 : held Z (Own C (famH S'.nx S'.HF F) Z2) w' (K + j) p.2 := g1.keep hU hB1 rfl (fun _ _ => rfl) (fun x hx => by
     refine h'.frame.block x (flt j p x h2 hx) ?_
     rintro ⟨i, hi, hix⟩
     have hi : i < S.nx := hi
     obtain ⟨b, hb⟩ := nlx i hi
     exact hs.dist i (K + j) b p.2 hb (h.fm h2) (by have := h.le; omega) x hix hx)
    exact ⟨zaE g2 (z2 j) f2 (fun _ _ hq => hq), .inr ⟨by omega, by have := zbA h2; omega⟩, fun q hq => by rw [f2] at hq; cases hq⟩
  ·rcases zaT hi with ⟨h1, h2⟩ | ⟨p, u, rfl, h2, rfl⟩ <;> rcases zaT hj with ⟨h3, h4⟩ | ⟨q, v, rfl, h4, rfl⟩
   ·rw [z1 i h1] at hx; rw [z1 j h3] at hx2
    exact h'.dist i j b c h2 h4 hij x hx hx2
   ·rw [z1 i h1] at hx; rw [z2] at hx2
    rcases old i b x h2 hx with ⟨q', c', g0, g1, g2⟩ | g1
    ·exact hs.dist q' (K + q) c' v.2 g1 (h.fm h4) (by have := h.le; omega) x g2 hx2
    ·have := flt q v x h4 hx2; omega
   ·rw [z2] at hx; rw [z1 j h3] at hx2
    rcases old j c x h4 hx2 with ⟨q', c', g0, g1, g2⟩ | g1
    ·exact hs.dist q' (K + p) c' u.2 g1 (h.fm h2) (by have := h.le; omega) x g2 hx
    ·have := flt p u x h2 hx; omega
   ·rw [z2] at hx hx2
    exact hs.dist (K + p) (K + q) u.2 v.2 (h.fm h2) (h.fm h4) (by omega) x hx hx2
  ·rcases zaT hi with ⟨h1, h2⟩ | ⟨j, p, rfl, h2, rfl⟩
   ·rw [z1 i h1] at hx
    rcases old i b x h2 hx with ⟨q, c, _, g1, g2⟩ | g1
    ·rcases hs.fresh q c x g1 g2 with g3 | g3 | ⟨j, g3, _⟩
     ·omega
     ·exact .inr (.inl g3)
     ·omega
    ·exact .inr (.inl (Nat.le_trans hs.frame.size g1))
   ·rw [z2] at hx
    rcases hs.fresh (K + j) p.2 x (h.fm h2) hx with g3 | g3 | ⟨j, g3, _⟩
    ·omega
    ·exact .inr (.inl g3)
    ·omega
theorem SimX.frame (hl : C.ln = ⟨0, 0⟩) (hfull : ∀ i, i < S.nx → ∃ b, S.HF i = some b) (h : SimX C S F a w) :
  ∃ C1 : Cx, C1.P = C.P ∧ C1.N = C.N ∧ C1.ln = ⟨S.nx, S.nx⟩ ∧ Sim C1 S a w ∧ ∀ S' a' w', Sim C1 S' a' w' → SimX C S' F a' w' := by
 obtain ⟨Z, K, h⟩ := h
 obtain ⟨C1, e1, e2, e3, g1, g2⟩ := h.frame hl hfull
 refine ⟨C1, e1, e2, e3, g1, fun S' a' w' hs => ?_⟩
 obtain ⟨Z', K', h', _⟩ := g2 S' a' w' hs
 exact ⟨Z', K', h'⟩
/-! ## Knowing less -/
theorem SimK.weaken (h : SimK C S F a w Z K) (hl : C.ln = ⟨0, 0⟩) (T : St) (l : List (Nat × Nat)) (G : List Nat) (hn : za7 C.ln T (rho l) G = true) (he : eLe S (rho l) G T.env) (hh : hLe S (rho l) G T.H) :
  ∃ Z', SimK C T F a w Z' T.nx ∧ (∀ i, i < T.nx → Z' i = Z (rho l i)) ∧ ∀ k, k < w.heap.size → Own C (famH T.nx T.HF F) Z' k → Own C (famH K S.HF F) Z k := by
 have hs := h.sim
 have hnl : C.nl = 0 := by unfold Cx.nl; rw [hl]
 have hm0 : C.ln.m = 0 := by rw [hl]
 generalize rho l = ρ at *
 unfold za7 at hn
 simp only [Bool.and_eq_true, List.all_eq_true, zbr, zca] at hn
 obtain ⟨⟨⟨⟨⟨⟨n1, n2⟩, n3⟩, n4⟩, n5⟩, n7⟩, n6⟩ := hn
 have hH : ∀ i b, T.HF i = some b → ∃ b', S.HF (ρ i) = some b' ∧ CfB S.HF ρ G b' b := fun i b hb => zhW hh (zbn hb)
 have hlo : ∀ i b, T.HF i = some b → i < T.nx := fun i b hb => (n2 _ (zbn hb)).1
 have top : ∀ i, T.nx ≤ i → T.HF i = none := fun i hi => by
  cases hb : T.HF i with
  | none => rfl
  | some b => have := hlo i b hb; omega
 have eid : ∀ t, ∀ i ∈ (T.envF t).ids, i < T.nx := fun t i hi => by
  unfold St.envF at hi
  rcases zfr (l := T.env) (t := t) with e | e
  ·rw [e] at hi; simp [AV.ids] at hi
  ·exact n1 _ e i hi
 have bid : ∀ i b, T.HF i = some b → ∀ j ∈ b.ids, j < T.nx := fun i b hb j hj => by
  have := (n2 _ (zbn hb)).2
  simp only [List.all_eq_true, zbr] at this
  exact this j hj
 generalize hZ : (fun i => if i < T.nx then Z (ρ i) else Z (K + (i - T.nx))) = Z2
 have z1 : ∀ i, i < T.nx → Z2 i = Z (ρ i) := fun i hi => by rw [← hZ]; exact if_pos hi
 have z2 : ∀ j, Z2 (T.nx + j) = Z (K + j) := fun j => by rw [← hZ]; simp only; rw [if_neg (by omega), Nat.add_sub_cancel_left]
 have hB : ∀ k, k < w.heap.size → Own C (famH T.nx T.HF F) Z2 k → Own C (famH K S.HF F) Z k := by
  rintro k _ (h0 | ⟨i, b, hi, hb⟩)
  ·exact .inl h0
  ·rcases zaT hi with ⟨h1, h2⟩ | ⟨j, p, rfl, h2, h3⟩
   ·obtain ⟨b', h3, _⟩ := hH i b h2
    rw [z1 i h1] at hb
    exact .inr ⟨ρ i, b', (h.hf h3).2, hb⟩
   ·rw [z2] at hb
    exact .inr ⟨K + j, _, h.fm h2, hb⟩
 have hGG : ∀ j b, j ∈ G → S.HF j = some b → held Z (Own C (famH K S.HF F) Z) w j b ∧ ∀ x, blk (Z j) = some x → ¬ Own C (famH T.nx T.HF F) Z2 x := by
  intro j b hj hb
  refine ⟨(hs.holds j b (h.hf hb).2).1, fun x hx => ?_⟩
  obtain ⟨⟨g0, g1⟩, g2⟩ := n6 j hj
  rintro (h0 | ⟨i, c, hi, hc⟩)
  ·have := hs.m0 x h0
   rcases hs.fresh j b x (h.hf hb).2 hx with h3 | h3 | ⟨q, h3, _⟩
   ·omega
   ·omega
   ·omega
  ·rcases zaT hi with ⟨h1, h2⟩ | ⟨q, p, rfl, h2, h3⟩
   ·obtain ⟨c', h3, _⟩ := hH i c h2
    have h4 := g2 _ (zbn h2)
    have h5 : ρ i ≠ j := fun e => by simp [e] at h4
    rw [z1 i h1] at hc
    exact hs.dist (ρ i) j c' b (h.hf h3).2 (h.hf hb).2 h5 x hc hx
   ·rw [z2] at hc
    exact hs.dist (K + q) j _ b (h.fm h2) (h.hf hb).2 (by have := h.le; have := (h.hf hb).1; omega) x hc hx
 refine ⟨Z2, ⟨Nat.le_refl _, top, eid, bid, fun j p hj => ⟨by rw [z2]; exact (h.fam j p hj).1, (h.fam j p hj).2⟩, hs.size, hs.defers, hs.frame, hs.m0, fun t => ?_, fun t i hi => .inl (eid t i hi), fun i b hb => ?_, fun i j b c hi hj hij x hx hx2 => ?_, fun i b x hi hx => ?_, hs.lm, fun i hi => by omega⟩, z1, hB⟩
 ·unfold St.envF
  rcases zfr (l := T.env) (t := t) with e | e
  ·rw [e, AV.rep]; trivial
  ·exact Cf.rep hB hGG (zhU he e) (fun i hi => z1 i (eid t i hi)) _ (hs.slots t)
 ·rcases zaT hb with ⟨h1, h2⟩ | ⟨j, p, rfl, h2, rfl⟩
  ·obtain ⟨b', h3, h4⟩ := hH i b h2
   exact ⟨h4.heldG (hs.holds _ b' (h.hf h3).2).1 (z1 i h1) (fun q hq => z1 q (bid i b h2 q hq)) hB hGG, .inl h1, fun q hq => .inl (bid i b h2 q hq)⟩
  ·obtain ⟨f1, f2⟩ := h.fam j p h2
   exact ⟨zaE (hs.holds _ _ (h.fm h2)).1 (z2 j) f2 hB, .inr ⟨by omega, by have := zbA h2; omega⟩, fun q hq => by rw [f2] at hq; cases hq⟩
 ·rcases zaT hi with ⟨h1, h2⟩ | ⟨p, u, rfl, h2, rfl⟩ <;> rcases zaT hj with ⟨h3, h4⟩ | ⟨q, v, rfl, h4, rfl⟩
  ·rw [z1 i h1] at hx; rw [z1 j h3] at hx2
   obtain ⟨b', g1, _⟩ := hH i b h2
   obtain ⟨c', g2, _⟩ := hH j c h4
   have := n5 _ (zbn h2) _ (zbn h4)
   rw [Bool.or_eq_true] at this
   rcases this with h3 | h3
   ·exact hij (Nat.eq_of_beq_eq_true h3)
   ·exact hs.dist (ρ i) (ρ j) b' c' (h.hf g1).2 (h.hf g2).2 (fun e => by simp [e] at h3) x hx hx2
  ·rw [z1 i h1] at hx; rw [z2] at hx2
   obtain ⟨b', g1, _⟩ := hH i b h2
   exact hs.dist (ρ i) (K + q) b' v.2 (h.hf g1).2 (h.fm h4) (by have := h.le; have := (h.hf g1).1; omega) x hx hx2
  ·rw [z2] at hx; rw [z1 j h3] at hx2
   obtain ⟨c', g1, _⟩ := hH j c h4
   exact hs.dist (K + p) (ρ j) u.2 c' (h.fm h2) (h.hf g1).2 (by have := h.le; have := (h.hf g1).1; omega) x hx hx2
  ·rw [z2] at hx hx2
   exact hs.dist (K + p) (K + q) u.2 v.2 (h.fm h2) (h.fm h4) (by omega) x hx hx2
 ·rcases zaT hi with ⟨h1, h2⟩ | ⟨j, p, rfl, h2, rfl⟩
  ·rw [z1 i h1] at hx
   obtain ⟨b', g1, _⟩ := hH i b h2
   rcases hs.fresh (ρ i) b' x (h.hf g1).2 hx with g3 | g3 | ⟨j, g3, _⟩
   ·omega
   ·exact .inr (.inl g3)
   ·omega
  ·rw [z2] at hx
   rcases hs.fresh (K + j) p.2 x (h.fm h2) hx with g3 | g3 | ⟨j, g3, _⟩
   ·omega
   ·exact .inr (.inl g3)
   ·omega
theorem SimX.weaken (h : SimX C S F a w) (hl : C.ln = ⟨0, 0⟩) (T : St) (l : List (Nat × Nat)) (G : List Nat) (hn : za7 C.ln T (rho l) G = true) (he : eLe S (rho l) G T.env) (hh : hLe S (rho l) G T.H) : SimX C T F a w := by
 obtain ⟨Z, K, h⟩ := h
 obtain ⟨Z', h', _⟩ := h.weaken hl T l G hn he hh
 exact ⟨Z', _, h'⟩
end
end Go.Ab
