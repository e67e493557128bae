/- slices.Grow of nil and slices.Concat of byte slices. Conditions: the sum of the lengths is at most 2^47. -/
import Derived.Test.YtabgmodllifgjaaCrcLaw2
import Derived.Lib.AppendZeros
namespace Go.Proofs.Ytabgmodllifgjaa
open Go.RowKit
set_option maxRecDepth 100000
set_option linter.unusedVariables false

theorem zeroCells_len (z : Array Value) (n : Nat) : (Builtin.zeroCells z n).size = n * z.size := by simp [Builtin.zeroCells]
/-- Room for n bytes. -/
theorem run_append_room (w : World) (n : Nat) (h0 : 0 < n) (hn : n ≤ 140737488355328) (ty : TypeId) :
    ∃ c w', (Builtin.append_ #[27, 3] ty #[.slice none 0 0, .int .i64 n]).run Try.prog w = .ok (.slice (some ⟨w.heap.size, 0, none⟩) n c) w' ∧
      Own w' w.heap.size (.slice (some ⟨w.heap.size, 0, none⟩) 0 c) [] ∧ Below w.heap.size w w' ∧ n ≤ c := by
  obtain ⟨i, hi, hz, hs, hby⟩ := info_parts info_u8
  have hr := Lib.run_append_nil_zeros (P := Try.prog) w 27 3 ty 5 i (.int .u8 0) .i64 .i64 Try.underlying27 Try.underlying3 hi hz n h0 (by omega) (by omega) (by rw [hby]; omega)
  have hc : n ≤ grownCap w n 0 5 := grownCap_ge w n 0 5
  refine ⟨_, _, hr, ⟨by simp [bv], .inr ⟨w.heap.size, _, _, rfl, Nat.le_refl _, heap_alloc_new _ _, Nat.zero_le _, ?_, ?_, rfl⟩⟩, (Below.refl _ _).drew.alloc (Nat.le_refl _) _, hc⟩
  · exact grownCap_le_maxLen w n 0 5 (by unfold maxLen; omega)
  · rw [Array.size_append, zeroCells_len, zeroCells_len]
    show n * 1 + _ * 1 = _ * 1
    omega

set_option maxHeartbeats 400000 in
theorem grow_any (n : Nat) (w : World) (hn : n ≤ 140737488355328) :
    Calls Try.prog 128 #[.slice none 0 0, .int .i64 n] w (Fresh w []) := by
  by_cases h0 : 0 < n
  · obtain ⟨c, w', hr, how, hb, hc⟩ := run_append_room w n h0 hn 27
    go_enter Try.func128, Try.ntmps128
    go_wp2_with (at_builtin; refine Lib.wpList_append_run _ rfl _ _ _ _ rfl _ _ rfl rfl _ _ hr ?_)
    go_ret
    exact ⟨_, rfl, how, hb⟩
  · obtain rfl : n = 0 := by omega
    go_enter Try.func128, Try.ntmps128
    go_wp2
    go_ret
    exact ⟨_, rfl, Own.nil _ _, Below.refl _ _⟩

def lens (L : List (Value × List UInt8)) : Nat := (L.map fun p => p.2.length).sum
def join (L : List (Value × List UInt8)) : List UInt8 := (L.map fun p => p.2).flatten
theorem lens_take (L : List (Value × List UInt8)) (k : Nat) : lens (L.take k) ≤ lens L := by
  have : lens L = lens (L.take k) + lens (L.drop k) := by
    unfold lens
    rw [← List.sum_append, ← List.map_append, List.take_append_drop]
  omega
theorem lens_succ (L : List (Value × List UInt8)) (k : Nat) (h : k < L.length) : lens (L.take (k + 1)) = lens (L.take k) + L[k].2.length := by
  unfold lens
  rw [List.take_succ_eq_append_getElem h, List.map_append]
  simp only [List.map_cons, List.map_nil, List.sum_append_nat, List.sum_cons, List.sum_nil, Nat.add_zero]
theorem join_succ (L : List (Value × List UInt8)) (k : Nat) (h : k < L.length) : join (L.take (k + 1)) = join (L.take k) ++ L[k].2 := by
  unfold join
  rw [List.take_succ_eq_append_getElem h, List.map_append]
  simp only [List.map_cons, List.map_nil, List.flatten_append, List.flatten_cons, List.flatten_nil, List.append_nil]
theorem join_len (L : List (Value × List UInt8)) : (join L).length = lens L := by simp [join, lens, List.length_flatten, Function.comp_def]

set_option maxHeartbeats 1000000 in
theorem concat_any (L : List (Value × List UInt8)) (A : Option Addr) (n c : Nat) (w : World) (h : Rd w 1 A n (L.map Prod.fst)) (hL : ∀ p ∈ L, IsRd p.2 p.1 w) (hN : lens L ≤ 140737488355328) (hc : n ≤ 1000000) :
    Calls Try.prog 106 #[.slice A n c] w (Fresh w (join L)) := by
  have hn : n = L.length := by have := h.1; simp at this; omega
  subst hn
  go_enter Try.func106, Try.ntmps106
  go_wp2_with fail
  go_loopw [3, 11] (fun s i wr => w = wr ∧ ∃ k : Nat, k ≤ L.length ∧ i = .int .i64 k ∧ s = .int .i64 (lens (L.take k))) (fun _ i _ => L.length - (intOf i).toNat)
  case atStart => exact ⟨rfl, 0, by omega, rfl, rfl⟩
  case round =>
    obtain ⟨rfl, k, hk, rfl, rfl⟩ := hrel
    by_cases hlt : k < L.length
    · obtain ⟨ad, u, rfl, hu, hcell⟩ := h.at_ hlt
      have hu' : u = L[k].1 := by simp [hlt] at hu; exact hu.symm
      obtain ⟨B, d, hv, hd, hB⟩ := hL L[k] (List.getElem_mem hlt)
      rw [hu', hv] at hcell
      have h1 := lens_succ L k hlt
      have h2 := lens_take L (k + 1)
      have h3 := lens_take L k
      have hi0 : (0 : Int) ≤ (k : Int) := by omega
      have hi1 : (k : Int) < (L.length : Int) := by omega
      have H1 := Lib.hid h1
      generalize L[k].2.length = m at *
      clear h1 hv hu hu'
      have hs : IntKind.i64.wrap ((lens (L.take k) : Int) + (m : Int)) = (lens (L.take k) : Int) + (m : Int) := IntWalk.i64_in _ (by have := H1.out; omega)
      have hnn : ¬ ((lens (L.take k) : Int) + (m : Int) < 0) := by omega
      go_wp2_with fail
      go_roundw
      case rel => exact ⟨trivial, k + 1, by omega, by go_num, by rw [H1.out]; push_cast; rfl⟩
      case measure => simp [intOf]; omega
    · obtain rfl : k = L.length := by omega
      rw [List.take_length]
      go_wp2_with fail
      refine (grow_any (lens L) _ hN).mono ?_
      rintro e w1 ⟨v1, rfl, how1, hb1⟩
      go_wp2_with fail
      go_loopw [6, 27] (fun s i wr => ∃ k : Nat, k ≤ L.length ∧ i = .int .i64 k ∧ Own wr w.heap.size s (join (L.take k)) ∧ Below w.heap.size w wr) (fun _ i _ => L.length - (intOf i).toNat)
      case atStart => exact ⟨0, by omega, rfl, how1, hb1⟩
      case round =>
        obtain ⟨k, hk, rfl, how, hb⟩ := hrel
        by_cases hlt : k < L.length
        · obtain ⟨ad, u, rfl, hu, hcell⟩ := (h.below hb).at_ hlt
          have hu' : u = L[k].1 := by simp [hlt] at hu; exact hu.symm
          obtain ⟨B, d, hv, hd, hB⟩ := hL L[k] (List.getElem_mem hlt)
          rw [hu', hv] at hcell
          have h1 := join_succ L k hlt
          have h2 := lens_take L (k + 1)
          rw [← join_len, h1, List.length_append] at h2
          have H1 := Lib.hid h1
          have hi0 : (0 : Int) ≤ (k : Int) := by omega
          have hi1 : (k : Int) < (L.length : Int) := by omega
          generalize L[k].2 = m at *
          clear h1 hv hu hu'
          have hsz := hb.size
          go_wp2_with (at_builtin; refine wpList_append_rd rfl (.tmp 31) (.tmp 32) rfl w.heap.size _ _ rfl how B m.length d m rfl (hB.below hb) (by omega) hsz ?_; intro v2 w2 how2 hg2 hat2)
          go_roundw
          case rel => exact ⟨k + 1, by omega, by go_num, by rw [H1.out]; exact how2, below_grown hb how hg2 (Nat.le_refl _) hsz⟩
          case measure => simp [intOf]; omega
        · obtain rfl : k = L.length := by omega
          rw [List.take_length] at how
          go_wp2_with fail
          go_ret
          exact ⟨_, rfl, how, hb⟩
end Go.Proofs.Ytabgmodllifgjaa
