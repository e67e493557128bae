/- slices.Grow of an own byte slice, in both layers. Conditions: lengths. -/
import Derived.Test.YtabgmodllifgjaaJoin
import Derived.Test.YtabgmodllifgjaaBr
import Derived.Deep.DeepAppendWide
namespace Go.Proofs.Ytabgmodllifgjaa
open Go.RowKit Go.Ab
set_option maxRecDepth 100000
set_option linter.unusedVariables false
set_option linter.unusedSimpArgs false

/-- n zeros behind a slice that is full. -/
theorem run_append_zeros_full (w : World) (g cap n : Nat) (olds : List Value) (hol : olds.length = cap) (holds : ∀ j u, olds[j]? = some u → w.cell? ((⟨g, 0, none⟩ : Addr).add j) = some u) (h0 : 0 < n) (hn : cap + n ≤ 140737488355328) (ty : TypeId) :
    (Builtin.append_ #[27, 3] ty #[.slice (some ⟨g, 0, none⟩) cap cap, .int .i64 n]).run Try.prog w = .ok (.slice (some ⟨w.heap.size, 0, none⟩) (cap + n) (grownCap w (cap + n) cap 5))
      (w.drew.alloc (.cells (olds.toArray ++ Builtin.zeroCells #[.int .u8 0] n ++ Builtin.zeroCells #[.int .u8 0] (grownCap w (cap + n) cap 5 - (cap + n))) 5)) := by
  obtain ⟨i, hi, hz, hs, hby⟩ := info_parts info_u8
  have ht := Try.underlying27
  have htn := Try.underlying3
  have hw : IntKind.i64.wrap (n : Int) = n := by rw [IntKind.wrap_i64]; omega
  have hne : ¬ (cap + n ≤ cap) := by omega
  have h63' : ¬ (9223372036854775807 < ((cap : Int) + (n : Int))) := by omega
  have hfit := growslice_fits_wide (need := cap + n) (old := cap) (bytes := 1) (by omega) (by omega)
  have h48' : ¬ (281474976710656 < Builtin.nextslicecap (cap + n) cap * i.bytes) := by rw [hby]; omega
  have h48i : ¬ (281474976710656 < (n : Int) * (i.bytes : Int)) := by rw [hby]; omega
  have hneg : ¬ ((n : Int) < 0) := by omega
  have hns : ¬ (n * i.size = 0) := by rw [hs]; omega
  have hn0 : n ≠ 0 := by omega
  have hfo := run_firstCells_some (P := Try.prog) w.drew i.size cap ⟨g, 0, none⟩ cap cap olds (by rw [hs]; omega) (by simpa using holds)
  have hzc : Value.cells (.int .u8 0) = #[.int .u8 0] := rfl
  simp [Builtin.append_, run_underlying ht, run_underlying htn, sizeOf, typeInfo, zeroValue, hi, hz, asInt, asIntOf, hw, hne, hneg, hns, hn0, h63', h48', h48i, Question.forced, hfo, newRow, grownCap, hzc]
set_option maxHeartbeats 1000000 in
theorem growOwn_any (l : List UInt8) (v : Value) (n base : Nat) (w : World) (hown : Own w base v l) (hl : l.length ≤ 140737488355200) (hn : n ≤ 64) (hbase : base ≤ w.heap.size) : Calls Try.prog 128 #[v, .int .i64 n] w (Onto w base v l) := by
  rcases hown.2 with ⟨rfl, hl0⟩ | ⟨g, cap, cur, rfl, hb, hg, hlc, hcm, hcs, htk⟩
  · have e : l = [] := List.eq_nil_of_length_eq_zero hl0
    subst e
    refine (grow_any n w (by omega)).mono ?_
    rintro e w' ⟨r, rfl, ho, hb⟩
    refine ⟨r, rfl, ho.mono hbase, ⟨hb.os, hb.tape, hb.output, hb.size, fun k hk _ => hb.block k hk⟩, ?_⟩
    cases hr : r.ownBlock with
    | none => exact .inl rfl
    | some k => exact .inr ⟨k, rfl, (ho.ownBlock k hr).1⟩
  · have hcm2 : (cap : Int) ≤ 9223372036854775807 := by simp only [maxLen] at hcm; omega
    have hw1 : IntKind.i64.wrap ((cap : Int) - (l.length : Int)) = (cap : Int) - (l.length : Int) := IntWalk.i64_in _ (by omega)
    have hw2 : IntKind.i64.wrap ((n : Int) - ((cap : Int) - (l.length : Int))) = (n : Int) - ((cap : Int) - (l.length : Int)) := IntWalk.i64_in _ (by omega)
    have hn0 : ¬ ((n : Int) < 0) := by omega
    by_cases hc : cap < l.length + n
    · have hg0 : (0 : Int) < (n : Int) - ((cap : Int) - (l.length : Int)) := by omega
      obtain ⟨m, hm⟩ : ∃ m : Nat, (n : Int) - ((cap : Int) - (l.length : Int)) = m := ⟨n - (cap - l.length), by omega⟩
      have hcsz : cur.toList.length = cap := by rw [Array.length_toList, hcs, Nat.mul_one]
      have hrun := run_append_zeros_full w g cap m cur.toList hcsz (fun j u hj => by
        rw [add_mid, Nat.zero_add, cell_of_row w g j cur _ _ hg]; simpa using hj) (by omega) (by omega) 27
      have hge := grownCap_ge w (cap + m) cap 5
      have hlm := grownCap_le_maxLen w (cap + m) cap 5 (by unfold maxLen; omega)
      generalize grownCap w (cap + m) cap 5 = C at *
      have hlC : (l.length : Int) ≤ (C : Int) := by omega
      go_enter Try.func128, Try.ntmps128
      go_wp2_with (at_builtin; refine Lib.wpList_append_run _ rfl _ _ _ _ rfl _ _ rfl rfl _ _ hrun ?_)
      go_ret
      refine ⟨_, rfl, ⟨hown.1, .inr ⟨w.heap.size, C, _, rfl, hbase, heap_alloc_new _ _, by omega, hlm, ?_, ?_⟩⟩, ⟨rfl, rfl, rfl, by simp, fun k hk _ => heap_alloc_old _ _ hk⟩, .inr ⟨w.heap.size, rfl, Nat.le_refl _⟩⟩
      · simp only [Array.size_append, zeroCells_len, hcs]
        simp
        omega
      · rw [← htk]
        simp only [Array.toList_append, List.append_assoc]
        rw [List.take_append_of_le_length (by omega)]
    · go_enter Try.func128, Try.ntmps128
      have hg0 : ¬ (0 : Int) < (n : Int) - ((cap : Int) - (l.length : Int)) := by omega
      go_wp2
      go_ret
      exact ⟨_, rfl, hown, World.grownBy.refl _ _, .inl rfl⟩
/-- .. in the second layer: the row is handed over. -/
theorem growRow_m (l : List UInt8) (n : Nat) (hl : l.length ≤ 140737488355200) (hn : n ≤ 64) : Meets Try.prog 128 [.ow 0, .r (.v (.int .i64 n))] [.row 5 1 (bys l)] (.fr 5 1 (bys l)) [none] := by
  intro w Z M k us hM hk hargs hpre hdist
  simp only [AV.reps, AV.rep, RV.rep] at hargs
  obtain ⟨_, us', rfl, rfl, _, _, rfl, rfl, rfl⟩ := hargs
  obtain ⟨⟨vs, h1, h2, h3⟩, h4⟩ := hpre 0 _ (by simp [numd]; exact rfl)
  have h5 := bys_vals l vs h2
  have hown : Own w 0 (Z 0) l := by
    rw [bys_len] at h1
    rw [List.map_map] at h5
    rw [h5] at h1
    exact h1
  refine (growOwn_any l (Z 0) n 0 w hown hl hn (Nat.zero_le _)).mono ?_
  rintro e w' ⟨r, rfl, ho, hg, hor⟩
  have hk0 : k ≠ 0 := by simp at hk; omega
  have hown' : ∀ x, blk r = some x → w.heap.size ≤ x ∨ blk (Z 0) = some x := by
    intro x hx
    have e1 : r.ownBlock = some x := by
      obtain ⟨A, c, e, _⟩ := ho.form
      subst e
      cases A with
      | none => simp [blk] at hx
      | some ad => simpa [blk, Value.ownBlock] using hx
    have e2 : (Z 0).ownBlock = blk (Z 0) := by
      obtain ⟨A, c, e, _⟩ := hown.form
      rw [e]
      cases A <;> rfl
    rcases hor with h | ⟨q, h, hq⟩
    · exact .inr (by rw [← e2, ← h, e1])
    · rw [e1] at h; injection h with h; exact .inl (by omega)
  have e2 : (Z 0).ownBlock = blk (Z 0) := by
    obtain ⟨A, c, e, _⟩ := hown.form
    rw [e]
    cases A <;> rfl
  refine ⟨r, rfl, fun i => if i = k then r else Z i, ⟨fun i hi => ?_, by simp [callSp, AV.unfr, AV.rep], fun i b h => ?_, fun j b hj => ?_, fun j j' x hj hj' hne => ?_, fun j x hj hx => ?_, ?_⟩⟩
  · have : i ≠ k := by simp [callSp, AV.unfr] at hi; omega
    simp [this]
  · simp [callSp, numdP] at h
  · cases j with
    | zero =>
      simp [callSp, AV.unfr] at hj
      subst hj
      refine ⟨bv l, ?_, rvs_bys _ _ l, fun e he => by simp only [bys, List.mem_map] at he; obtain ⟨b, _, rfl⟩ := he; rfl⟩
      simp only [Nat.add_zero, if_pos, bys_len]
      exact ho
    | succ j => simp [callSp, AV.unfr] at hj
  · simp [callSp, AV.unfr] at hj hj'; omega
  · have : j = 0 := by simpa [callSp, AV.unfr] using hj
    subst this
    simp only [Nat.add_zero, if_pos] at hx
    rcases hown' x hx with h | h
    · exact .inl h
    · exact .inr ⟨0, by simp [callSp, numdP], h⟩
  · exact ⟨hg.os, hg.tape, hg.output, hg.size, fun q hq hne => hg.block q hq (fun e => hne ⟨0, none, by simp [callSp, numdP], by rw [← e2]; exact e.symm⟩)⟩
end Go.Proofs.Ytabgmodllifgjaa
