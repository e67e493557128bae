/- The tape, the reference's numbers and Mod in the second layer. Conditions: a list of at most 2^47 numbers. -/
import Derived.Test.YtabgmodllifgjaaBr
import Derived.Test.YtabgmodllifgjaaGB
import Derived.Test.YtabgmodllifgjaaSpoil2
namespace Go.Proofs.Ytabgmodllifgjaa
open Go.RowKit Go.Ab
set_option maxRecDepth 100000
set_option linter.unusedVariables false
set_option linter.unusedSimpArgs false

/-- The tape of the numbers l, k of them being taken. -/
abbrev tb (l : List Int) (k : Nat) : Blk := .var 110 [.r (.sl 1 (nums .i64 l)), .r (.v (.int .i64 (k : Int)))]

theorem nums_vals {B : Nat → Prop} {w : World} : ∀ (l : List Int) (us : List Value), RVs B w (nums .i64 l).flatten us → us = iv l
  | [], us, h => by cases h; rfl
  | x :: l, us, h => by
    rw [nums, List.map_cons, List.flatten_cons] at h
    cases h with
    | cons h1 h2 h3 =>
      rw [RV.rep] at h2
      rw [iv, List.map_cons, h2, nums_vals l _ h3]
      rfl
theorem rep_nums {B : Nat → Prop} {w : World} {l : List Int} {u : Value} (h : RV.rep B w (.sl 1 (nums .i64 l)) u) : ∃ A c, u = .slice A l.length c ∧ c ≤ maxLen ∧ Rd w 1 A l.length (iv l) ∧ (0 < l.length → ∀ ad, A = some ad → ad.block < w.heap.size ∧ ¬ B ad.block) := by
  rw [RV.rep, nums_len] at h
  obtain ⟨A, c, h1, h2, h3, h4, h5⟩ := h
  refine ⟨A, c, h1, h3, ⟨by simp [iv], fun hn => ?_⟩, fun hn ad e => ?_⟩
  · obtain ⟨ad, e, _, _, h6⟩ := h5 (by intro e; have h := congrArg List.length e; rw [nums_len, List.length_nil] at h; omega)
    rw [RV.rows_flat, RV.row_vals] at h6
    obtain ⟨us, h7, h8⟩ := h6
    refine ⟨ad, e, fun j v hj => ?_⟩
    have := nums_vals l us h7
    have h9 := h8 j v (by rw [this]; exact hj)
    rwa [Nat.zero_add] at h9
  · obtain ⟨ad', e', g1, g2, _⟩ := h5 (by intro e; have h := congrArg List.length e; rw [nums_len, List.length_nil] at h; omega)
    rw [e'] at e
    injection e with e
    subst e
    exact ⟨g1, g2⟩
theorem mod_m (a n : Int) (ha : -9223372036854775808 ≤ a ∧ a < 9223372036854775808) (hn : -9223372036854775808 ≤ n ∧ n < 9223372036854775808) : Meets Try.prog 26 [.r (.v (.int .i64 a)), .r (.v (.int .i64 n))] [] (.r (.v (.int .i64 (modz a n)))) [] := by
  intro w Z M k us hM hk hargs _ _
  simp only [AV.reps, AV.rep, RV.rep] at hargs
  obtain ⟨_, _, rfl, rfl, _, _, rfl, rfl, rfl⟩ := hargs
  exact (mod_any a n w ha hn).mono fun e w' ⟨he, hw⟩ => ⟨_, he, hw ▸ after_val (Below.refl _ _)⟩
theorem refNumber_m (l : List UInt8) (v n : Nat) (hv : v < 18446744073709551616) (hn : n ≤ 8) (hl : l.length + 8 ≤ 211106232532992) : Meets Try.prog 59 [.r (.sl 1 (bys l)), .r (.v (.int .u64 v)), .r (.v (.int .i64 n))] [] (.fr 5 1 (bys (l ++ le v n))) [] := by
  intro w Z M k us hM hk hargs _ _
  simp only [AV.reps, AV.rep] at hargs
  obtain ⟨u, _, rfl, h1, _, _, rfl, h2, _, _, rfl, h3, rfl⟩ := hargs
  rw [RV.rep] at h2 h3
  subst h2 h3
  obtain ⟨A, c, rfl, _, _, h4⟩ := rep_rd h1
  exact (refNumber_any l A _ c v n w h4 hv hn hl).mono fun e w' ⟨r, he, ho, hb⟩ => ⟨r, he, after_fresh hM ho hb⟩
theorem refValue_m (l : List UInt8) (t n : Nat) (hn : n ≤ 8) (ht : t + n ≤ l.length) (hl : l.length ≤ 211106232532992) : Meets Try.prog 88 [.r (.sl 1 (bys l)), .r (.v (.int .i64 t)), .r (.v (.int .i64 n))] [] (.r (.v (.int .u64 (val ((l.drop t).take n))))) [] := by
  intro w Z M k us hM hk hargs _ _
  simp only [AV.reps, AV.rep] at hargs
  obtain ⟨u, _, rfl, h1, _, _, rfl, h2, _, _, rfl, h3, rfl⟩ := hargs
  rw [RV.rep] at h2 h3
  subst h2 h3
  obtain ⟨A, c, rfl, _, _, h4⟩ := rep_rd h1
  exact (refValue_any l A _ c t n t rfl w h4 hn ht hl).mono fun e w' ⟨he, hw⟩ => ⟨_, he, hw ▸ after_val (Below.refl _ _)⟩
theorem refSame_m (l m : List UInt8) : Meets Try.prog 34 [.r (.sl 1 (bys l)), .r (.sl 1 (bys m))] [] (.r (.v (.bool (l == m)))) [] := by
  intro w Z M k us hM hk hargs _ _
  simp only [AV.reps, AV.rep] at hargs
  obtain ⟨u, _, rfl, h1, u', _, rfl, h2, rfl⟩ := hargs
  obtain ⟨A, c, rfl, g1, g2, h4⟩ := rep_rd h1
  obtain ⟨A', c', rfl, g3, g4, h5⟩ := rep_rd h2
  exact (refSame_any l m A A' _ c _ c' w h4 h5 (by omega) (by omega)).mono fun e w' ⟨he, q, hq⟩ => ⟨_, he, after_val (hq ▸ below_drewN' (Below.refl _ _) q)⟩
theorem tb_held {Z : Nat → Value} {M B : Nat → Prop} {w w' : World} {l : List Int} {k' p : Nat} {A : Option Addr} {n c : Nat} (hz : Z 0 = .pointer (some ⟨p, 0, none⟩)) (hr : RV.rep M w (.sl 1 (nums .i64 l)) (.slice A n c)) (hU : Go.Ab.Upto M w w') (hB : ∀ q, q < w.heap.size → B q → M q)
    (hw : w'.heap[p]? = some (.cells #[.slice A n c, .int .i64 (k' : Int)] 110 (0, 0))) : held Z B w' 0 (tb l k') := by
  refine ⟨p, _, hz, hw, ?_, by simp; exact ⟨rfl, rfl⟩⟩
  simp only [AV.reps, AV.rep]
  exact ⟨_, _, rfl, RV.rep_mono hU hB _ _ hr, _, _, rfl, by rw [RV.rep], rfl⟩
theorem tb_in {Z : Nat → Value} {M : Nat → Prop} {w : World} {l : List Int} {k : Nat} (hl : Ints l) (hn : l.length ≤ 140737488351232) (h : held Z M w 0 (tb l k)) (hM : ∀ x, blk (Z 0) = some x → M x) :
    ∃ p A c, Z 0 = .pointer (some ⟨p, 0, none⟩) ∧ TapeC A l.length c l w p k ∧ RV.rep M w (.sl 1 (nums .i64 l)) (.slice A l.length c) ∧ M p := by
  obtain ⟨p, vs, h1, h2, h3, _⟩ := h
  simp only [AV.reps, AV.rep] at h3
  obtain ⟨u, us, e1, h4, u', us', e2, h5, e3⟩ := h3
  rw [RV.rep] at h5
  obtain ⟨A, c, rfl, h6, h7, h8⟩ := rep_nums h4
  have hMp : M p := hM p (by rw [h1]; rfl)
  have : vs = #[.slice A l.length c, .int .i64 (k : Int)] := by
    apply Array.toList_inj.1
    rw [e1, e2, e3, h5]
  subst this
  exact ⟨p, A, c, h1, ⟨h2, h7, hl, hn, fun hp ad e he => (h8 hp ad e).2 (he ▸ hMp)⟩, h4, hMp⟩
theorem upto_grown {w w' : World} {p : Nat} {M : Nat → Prop} (h : w.grownBy w' (some p)) (hM : M p) : Go.Ab.Upto M w w' := ⟨h.os, h.tape, h.output, h.size, fun q hq hn => h.block q hq fun e => hn (by injection e with e; exact e ▸ hM)⟩
theorem next_m (l : List Int) (k : Nat) (m : Int) (hl : Ints l) (hn : l.length ≤ 140737488351232) (hm : -9223372036854775808 ≤ m ∧ m < 9223372036854775808) : Meets Try.prog 29 [.pt 0 0, .r (.v (.int .i64 m))] [tb l k] (.r (.v (.int .i64 (nx l k m)))) [some (tb l (adv l k))] := by
  intro w Z M K us hM hK hargs hpre _
  obtain ⟨g1, g2⟩ := hpre 0 _ (by simp [numd]; exact rfl)
  obtain ⟨p, A, c, hz, hT, hr, hMp⟩ := tb_in hl hn g1 g2
  simp only [AV.reps, AV.rep, RV.rep] at hargs
  obtain ⟨_, _, rfl, ⟨b, hb, rfl⟩, _, _, rfl, rfl, rfl⟩ := hargs
  rw [hz] at hb
  simp only [blk, Option.some.injEq] at hb
  subst hb
  refine (next_ex p m hm w hT).mono fun e w' ⟨he, hT', hg⟩ => ⟨_, he, Z, fun _ _ => rfl, by simp only [callSp, AV.unfr, AV.rep, RV.rep], fun i b h => ?_, fun j b h => by simp [callSp, AV.unfr] at h, fun j j' x h => by simp [callSp, AV.unfr] at h, fun j x h => by simp [callSp, AV.unfr] at h, ?_⟩
  · simp only [callSp, numdP, List.mem_cons, List.not_mem_nil, or_false, Prod.mk.injEq, Option.some.injEq] at h
    obtain ⟨rfl, rfl⟩ := h
    refine tb_held hz hr (upto_grown hg hMp) (fun q _ hq => ?_) hT'.at_
    rcases hq with h0 | ⟨j, hj, _⟩
    · exact h0
    · simp [callSp, AV.unfr] at hj
  · refine upto_grown hg ?_
    exact ⟨0, some (tb l (adv l k)), by simp [callSp, numdP], by rw [hz]; rfl⟩
theorem spoiled_m (l : List UInt8) (r : List Int) (k : Nat) (hr : Ints r) (hn : r.length ≤ 140737488351232) (hl : l.length ≤ 140737488351300) : Meets Try.prog 31 [.pt 0 0, .r (.sl 1 (bys l))] [tb r k] (.fr 5 1 (bys (spoilL l r k))) [some (tb r (spoilK l r k))] := by
  intro w Z M K us hM hK hargs hpre _
  obtain ⟨g1, g2⟩ := hpre 0 _ (by simp [numd]; exact rfl)
  obtain ⟨p, TA, tc, hz, hT, hrr, hMp⟩ := tb_in hr hn g1 g2
  simp only [AV.reps, AV.rep] at hargs
  obtain ⟨_, _, rfl, ⟨b, hb, rfl⟩, _, _, rfl, h1, rfl⟩ := hargs
  obtain ⟨A, c, rfl, _, _, h4⟩ := rep_rd h1
  rw [hz] at hb
  simp only [blk, Option.some.injEq] at hb
  subst hb
  have hK : K ≠ 0 := by simp at hK; omega
  refine (spoiled_ex p l A _ c w hT h4 hl).mono fun e w' ⟨v, he, ho, ha, hg⟩ => ⟨v, he, fun i => if i = K then v else Z i, fun i hi => ?_, ?_, fun i b h => ?_, fun j b hj => ?_, fun j j' x hj hj' hne => ?_, fun j x hj hx => .inl ?_, ?_⟩
  · have : i ≠ K := by simp [callSp, AV.unfr] at hi; omega
    simp [this]
  · simp [callSp, AV.unfr, AV.rep]
  · simp only [callSp, numdP, List.mem_cons, List.not_mem_nil, or_false, Prod.mk.injEq, Option.some.injEq] at h
    obtain ⟨rfl, rfl⟩ := h
    refine tb_held (by simp [Ne.symm hK, hz]) hrr (upto_grown hg hMp) (fun q hq hq' => ?_) ha
    rcases hq' with h0 | ⟨j, hj, hjq⟩
    · exact h0
    · have : j = 0 := by simpa [callSp, AV.unfr] using hj
      subst this
      simp only [Nat.add_zero, if_pos] at hjq
      have := own_blk ho hjq
      omega
  · cases j with
    | zero =>
      simp [callSp, AV.unfr] at hj
      subst hj
      refine ⟨bv (spoilL l r k), ?_, rvs_bys _ _ _, fun e he => by simp only [bys, List.mem_map] at he; obtain ⟨b, _, rfl⟩ := he; rfl⟩
      simp only [Nat.add_zero, if_pos, bys_len]
      exact ho.mono (Nat.zero_le _)
    | succ j => simp [callSp, AV.unfr] at hj
  · simp [callSp, AV.unfr] at hj hj'; omega
  · have : j = 0 := by simpa [callSp, AV.unfr] using hj
    subst this
    simp only [Nat.add_zero, if_pos] at hx
    exact own_blk ho hx
  · refine upto_grown hg ?_
    exact ⟨0, some (tb r (spoilK l r k)), by simp [callSp, numdP], by rw [hz]; rfl⟩
theorem new_raw (A : Option Addr) (n c : Nat) (w : World) : Calls Try.prog 28 #[.slice A n c] w fun e w' => e = .returned (.pointer (some ⟨w.heap.size, 0, none⟩)) ∧ w'.heap[w.heap.size]? = some (.cells #[.slice A n c, .int .i64 ((0 : Nat) : Int)] 110 (0, 0)) ∧ Below w.heap.size w w' := by
  go_enter Try.func28, Try.ntmps28
  go_wp2
  go_ret
  exact ⟨rfl, heap_alloc_new _ _, (Below.refl _ _).alloc (Nat.le_refl _) _⟩
theorem new_m (l : List Int) : Makes Try.prog 28 [.r (.sl 1 (nums .i64 l))] 110 [.sl 1 (nums .i64 l), .v (.int .i64 ((0 : Nat) : Int))] := by
  intro w Z M us hM hargs
  simp only [AV.reps, AV.rep] at hargs
  obtain ⟨u, us', rfl, h1, rfl⟩ := hargs
  obtain ⟨A, c, rfl, _⟩ := rep_nums h1
  refine (new_raw A _ c w).mono fun e w' ⟨he, ha, hb⟩ => ⟨_, _, he, Nat.le_refl _, ha, ?_, hb⟩
  exact .cons rfl (RV.rep_mono (Go.Ab.Upto.of_below hb) (fun q hq hq' => hq'.resolve_right (by omega)) _ _ h1) (.cons rfl (by rw [RV.rep]) .nil)
end Go.Proofs.Ytabgmodllifgjaa
