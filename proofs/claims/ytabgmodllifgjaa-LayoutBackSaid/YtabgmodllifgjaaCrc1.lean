/- The walks of crc32c.Table, crc32c.Update and the reference's element. Conditions: a checksum is below 2^32. -/
import Derived.Test.YtabgmodllifgjaaBase
import Derived.Test.YtabgmodllifgjaaCrcPlain
import Derived.Deep.WholeRow
namespace Go.Proofs.Ytabgmodllifgjaa
open Go.RowKit
set_option maxRecDepth 100000


def tabUp (k : Nat) : Array Value := ((List.range 256).map fun i => if i < k then .int .u32 (Crc.el i) else .int .u32 0).toArray
def tabv : Array Value := tabUp 256
theorem tabUp_size (k : Nat) : (tabUp k).size = 256 := by simp [tabUp]
theorem tabUp_get (k i : Nat) (h : i < 256) : (tabUp k)[i]? = some (if i < k then .int .u32 (Crc.el i) else .int .u32 0) := by
  simp [tabUp, h]
theorem tabUp_set (k : Nat) (_h : k < 256) : (tabUp k).setIfInBounds k (.int .u32 (Crc.el k)) = tabUp (k + 1) := by
  apply Array.ext_getElem?
  intro i
  rw [Array.getElem?_setIfInBounds, tabUp_size]
  by_cases hi : i < 256
  · rw [tabUp_get _ _ hi, tabUp_get _ _ hi]
    by_cases he : k = i
    · subst he; simp [hi]
    · rw [if_neg he]
      have : (i < k) = (i < k + 1) := by apply propext; omega
      simp only [this]
  · have h1 : (tabUp k)[i]? = none := Array.getElem?_eq_none (by rw [tabUp_size]; omega)
    have h2 : (tabUp (k + 1))[i]? = none := Array.getElem?_eq_none (by rw [tabUp_size]; omega)
    rw [h1, h2]
    by_cases he : k = i
    · subst he; simp [hi]
    · rw [if_neg he]
theorem zero23 : Try.zeroCells23 = tabUp 0 := by kernel_rfl
theorem tabUp_one (k : Nat) : (tabUp k).all (·.oneCell') = true := by
  rw [Array.all_eq_true]
  intro i hi
  have hi' : i < 256 := by rw [tabUp_size] at hi; exact hi
  have := tabUp_get k i hi'
  rw [Array.getElem?_eq_getElem hi] at this
  injection this with this
  rw [this]
  split <;> rfl

theorem b_and1 (y : Nat) (hy : y < 4294967296) : bits .and .u32 (y : Int) 1 = (y : Int) % 2 := by
  have := u32_and_nat y 1 hy (by omega); rw [nat_mask1] at this; simpa using this
theorem b_xor (y z : Nat) (hy : y < 4294967296) (hz : z < 4294967296) : bits .xor .u32 (y : Int) (z : Int) = ((y ^^^ z : Nat) : Int) := u32_xor_nat y z hy hz

set_option maxHeartbeats 400000 in

theorem table_any (w : World) :
    Calls Try.prog 22 #[] w fun e w' => e = .returned (.agg tabv) ∧ Below w.heap.size w w' := by
  go_enter Try.func22, Try.ntmps22
  go_wp2
  go_loopw [5] (fun i wr => ∃ k : Nat, k ≤ 256 ∧ i = .int .i64 k ∧ wr.heap[w.heap.size + 1]? = some (.cells (tabUp k) 23 (0, 0)) ∧ wr.heap[w.heap.size]? = some (.cells (tabUp 0) 23 (0, 0)) ∧ wr.heap.size = w.heap.size + 2 ∧ Below w.heap.size w wr) (fun i _ => 256 - (intOf i).toNat)
  case atStart =>
    refine ⟨0, by omega, rfl, ?_, ?_, by simp, ((Below.refl _ _).alloc (Nat.le_refl _) _).alloc (by simp) _⟩
    · rw [zero23]; exact heap_alloc2_new _ _ _
    · rw [zero23]; exact heap_alloc2_old _ _ _
  case round =>
    obtain ⟨k, hk, rfl, hb1, hb0, hsz, hbel⟩ := hrel
    have HB1 := Lib.hid hb1
    have HB0 := Lib.hid hb0
    have HSZ := Lib.hid hsz
    clear hb1 hb0 hsz
    by_cases hlt : k < 256
    · go_wp2
      go_loop [3, 10] (fun s i => ∃ j : Nat, j ≤ 8 ∧ i = .int .i64 j ∧ s = .int .u32 (Crc.stN j k)) (fun _ i => 8 - (intOf i).toNat)
      case atStart => exact ⟨0, by omega, rfl, rfl⟩
      case round =>
        obtain ⟨j, hj, rfl, rfl⟩ := hrel
        by_cases hjl : j < 8
        · have hy : Crc.stN j k < 4294967296 := Crc.stN_lt (by omega) j
          have hs : Crc.stN (j + 1) k = (Crc.stN j k / 2) ^^^ (Crc.poly * (Crc.stN j k % 2)) := rfl
          have HS := Lib.hid hs
          clear hs
          generalize Crc.stN j k = y at *
          have h1 := b_and1 y hy
          have h2 := b_xor (y / 2) (Crc.poly * (y % 2)) (by omega) (by unfold Crc.poly; omega)
          go_wp2
          go_round
          case rel => exact ⟨j + 1, by omega, by go_num, by rw [HS.out]; exact congrArg (Value.int .u32) h2⟩
          case measure => simp [intOf]; omega
        · obtain rfl : j = 8 := by omega
          have hc := (cell_of_row wr (w.heap.size + 1) k _ _ _ HB1.out).trans (tabUp_get k k hlt)
          have hf := frozen_of_row wr (w.heap.size + 1) k _ _ HB1.out
          go_wp2
          go_roundw
          case rel =>
            refine ⟨k + 1, by omega, by go_num, ?_, ?_, by simpa [World.setCell] using HSZ.out, hbel.setCell (by simp) _⟩
            · rw [heap_setCell_same wr _ _ _ _ _ HB1.out]; rw [← tabUp_set k hlt]; rfl
            · rw [heap_setCell_other _ _ _ _ (by simp)]; exact HB0.out
          case measure => simp [intOf]; omega
    · obtain rfl : k = 256 := by omega
      go_wp2_with (first | (refine wpList_load_row rfl 23 _ rfl (w.heap.size + 1) rfl 23 (tabUp 256) _ _ HB1.out Try.underlying23 rfl (by rw [tabUp_size]; kernel_rfl) ?_) | (refine wpList_store_row rfl 23 _ _ rfl w.heap.size (tabUp 256) rfl rfl 23 _ HB0.out (by rw [tabUp_size]; kernel_rfl) (by simp [tabUp_size]) (tabUp_one _) ?_))
      refine bodyPost_ret (results_cell_row rfl _ _ w.heap.size 23 (tabUp 256) (0, 0) _ rfl (setRow_heap _ _ _ _ _ _ HB0.out) Try.underlying23 rfl (by rw [tabUp_size]; kernel_rfl)) rfl ⟨rfl, hbel.trans ?_⟩
      exact ⟨rfl, rfl, rfl, by simp, fun i hi => setRow_other _ _ _ _ (by omega)⟩

theorem b_xorp (y : Nat) (hy : y < 4294967296) : bits .xor .u32 ((y : Int) / 2) 2197175160 = ((y / 2 ^^^ Crc.poly : Nat) : Int) := b_xor (y / 2) 2197175160 (by omega) (by omega)

set_option maxHeartbeats 400000 in
theorem element_any (x : Nat) (hx : x < 4294967296) (w : World) :
    Calls Try.prog 84 #[.int .u32 x] w fun e w' => e = .returned (.int .u32 (Crc.el x)) ∧ w = w' := by
  go_enter Try.func84, Try.ntmps84
  go_wp2
  go_loop [0, 3] (fun s i => ∃ k : Nat, k ≤ 8 ∧ i = .int .i64 k ∧ s = .int .u32 (Crc.stN k x)) (fun _ i => 8 - (intOf i).toNat)
  case atStart => exact ⟨0, by omega, rfl, rfl⟩
  case round =>
    obtain ⟨k, hk, rfl, rfl⟩ := hrel
    by_cases hlt : k < 8
    · have hy : Crc.stN k x < 4294967296 := Crc.stN_lt hx k
      have hs : Crc.stN (k + 1) x = (Crc.stN k x / 2) ^^^ (Crc.poly * (Crc.stN k x % 2)) := rfl
      have HS := Lib.hid hs
      clear hs
      generalize Crc.stN k x = y at *
      have h1 := b_and1 y hy
      have h2 := b_xorp y hy
      rcases Nat.mod_two_eq_zero_or_one y with hm | hm
      · have hm' : ((y : Int) % 2 == 1) = false := by simp; omega
        have HM := Lib.hid hm
        clear hm
        go_wp2
        go_round
        case rel => exact ⟨k + 1, by omega, by go_num, by rw [HS.out, HM.out]; simp⟩
        case measure => simp [intOf]; omega
      · have hm' : ((y : Int) % 2 == 1) = true := by simp; omega
        have HM := Lib.hid hm
        clear hm
        go_wp2
        go_round
        case rel => exact ⟨k + 1, by omega, by go_num, by rw [HS.out, HM.out]; simp⟩
        case measure => simp [intOf]; omega
    · obtain rfl : k = 8 := by omega
      go_wp2
      go_ret
      exact ⟨rfl, rfl⟩

theorem tabv_size : tabv.size = 256 := tabUp_size _
theorem tabv_one : tabv.all (·.oneCell') = true := tabUp_one _
theorem tabv_get (i : Nat) (h : i < 256) : tabv[i]? = some (.int .u32 (Crc.el i)) := by have := tabUp_get 256 i h; rw [if_pos h] at this; exact this
theorem info23 : (Try.prog.info? 23).map (·.size) = some 256 := by kernel_rfl
theorem zero23s : Try.zeroCells23.size = 256 := by kernel_rfl
theorem table_blk (w : World) : (w.alloc (.cells Try.zeroCells23 23)).setRow w.heap.size tabv = w.alloc (.cells tabv 23) := World.setRow_alloc_new _ _ _ _
theorem b_not32 (c : Nat) (hc : c < 4294967296) : bits .xor .u32 IntKind.u32.max (c : Int) = ((4294967295 - c : Nat) : Int) := by
  have h0 := u32_xor_nat 4294967295 c (by omega) hc
  have h1 : 4294967295 ^^^ c = 4294967295 - c := by
    apply Nat.eq_of_testBit_eq
    intro i
    have e1 : 4294967295 - c = 2 ^ 32 - (c + 1) := by omega
    have e2 : 4294967295 = 2 ^ 32 - (0 + 1) := by decide
    rw [e1, Nat.testBit_two_pow_sub_succ (by omega), Nat.testBit_xor, e2, Nat.testBit_two_pow_sub_succ (by omega)]
    by_cases hi : i < 32
    · simp [hi]
    · have : c.testBit i = false := Nat.testBit_lt_two_pow (Nat.lt_of_lt_of_le (show c < 2 ^ 32 by omega) (Nat.pow_le_pow_right (by omega) (by omega)))
      simp [hi, this]
  rw [h1] at h0; exact h0
theorem sg32 : IntKind.u32.signed = false := rfl

set_option maxHeartbeats 400000 in
theorem update_any (c : Nat) (hc : c < 4294967296) (l : List UInt8) (A : Option Addr) (n cap : Nat) (hn : n ≤ maxLen) (w : World) (h : Rd w 1 A n (bv l)) :
    Calls Try.prog 27 #[.int .u32 c, .slice A n cap] w fun e w' => e = .returned (.int .u32 (Crc.crc c l)) ∧ Below w.heap.size w w' := by
  have hnl := h.len
  have hneg := b_not32 c hc
  have hsg := sg32
  have HNL := Lib.hid hnl
  clear hnl
  unfold maxLen at hn
  go_enter Try.func27, Try.ntmps27
  go_wp2_with (first | (go_at_call 22; refine (table_any _).mono ?_; rintro e w1 ⟨rfl, hb1⟩) | (refine wpList_store_row rfl 23 _ _ rfl w1.heap.size tabv rfl rfl 23 _ (heap_alloc_new _ _) (by rw [tabv_size]; exact info23) (zero23s.trans tabv_size.symm) tabv_one ?_; rw [table_blk]))
  have h1 := (h.below hb1).alloc (.cells tabv 23)
  have hb : Below w.heap.size w (w1.alloc (.cells tabv 23)) := hb1.alloc hb1.size _
  have hT : ∀ j, j < 256 → (w1.alloc (.cells tabv 23)).cell? ⟨w1.heap.size, j, none⟩ = some (.int .u32 (Crc.el j)) := fun j hj => by
    rw [World.cell?_alloc_new]; exact tabv_get j hj
  clear hneg
  go_loop [0, 13] (fun s i => ∃ k : Nat, k ≤ n ∧ i = .int .i64 k ∧ s = .int .u32 (Crc.raw (4294967295 - c) (l.take k))) (fun _ i => n - (intOf i).toNat)
  case atStart => exact ⟨0, by omega, rfl, rfl⟩
  case round =>
    obtain ⟨k, hk, rfl, rfl⟩ := hrel
    have hraw : Crc.raw (4294967295 - c) (l.take k) < 4294967296 := Crc.raw_lt _ (by omega)
    by_cases hlt : k < n
    · obtain ⟨ad, hl, rfl, hcell⟩ := h1.byte hlt
      have hs := Crc.raw_take_succ (4294967295 - c) l k hl
      have HS := Lib.hid hs
      clear hs
      generalize Crc.raw (4294967295 - c) (l.take k) = y at *
      have hby := (l[k]).toNat_lt
      generalize (l[k]).toNat = b at *
      have hx0 := u8_xor_nat (y % 256) b (by omega) hby
      have hx : bits .xor .u8 ((y : Int) % 256) (b : Int) = ((y % 256 ^^^ b : Nat) : Int) := hx0
      have hxl : y % 256 ^^^ b < 256 := Crc.xor_lt256 (by omega) hby
      have hel := Crc.el_lt (x := y % 256 ^^^ b) (by omega)
      have hq0 := u32_xor_nat (Crc.el (y % 256 ^^^ b)) (y / 256) hel (by omega)
      have hq : bits .xor .u32 (Crc.el (y % 256 ^^^ b) : Int) ((y : Int) / 256) = ((Crc.el (y % 256 ^^^ b) ^^^ y / 256 : Nat) : Int) := hq0
      clear hx0 hq0
      have hup := Crc.up_alt y b hby
      have HUP := Lib.hid hup
      clear hup
      generalize y % 256 ^^^ b = z at *
      go_wp2
      go_round
      case rel => exact ⟨k + 1, by omega, by go_num, by rw [HS.out, HUP.out]⟩
      case measure => simp [intOf]; omega
    · obtain rfl : k = n := by omega
      have hneg := b_not32 _ hraw
      go_wp2
      go_ret
      refine ⟨?_, hb⟩
      rw [List.take_of_length_le (by have := HNL.out; omega)]; rfl
end Go.Proofs.Ytabgmodllifgjaa
