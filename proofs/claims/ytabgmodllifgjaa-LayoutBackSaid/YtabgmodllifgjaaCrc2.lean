/- The walks of crc32c.Sum, Append, Check and of the reference's Table, Update, Sum, Append, Check, Number, Value and Same. Conditions: lengths below 2^47. -/
import Derived.Test.YtabgmodllifgjaaCrc1
import Derived.Test.YtabgmodllifgjaaLittle
namespace Go.Proofs.Ytabgmodllifgjaa
open Go.RowKit
set_option maxRecDepth 100000
set_option linter.unusedVariables false

theorem maxLen_of (l : List UInt8) (h : l.length ≤ 211106232532992) : l.length ≤ maxLen := by unfold maxLen; omega

theorem beq_cast (a b : Nat) : ((a : Int) == (b : Int)) = (a == b) := by rw [Bool.eq_iff_iff]; simp; omega
theorem wrap_u64_nat (x : Nat) (h : x < 18446744073709551616) : IntKind.u64.wrap (x : Int) = (x : Int) := by rw [IntKind.wrap_u64]; omega

set_option maxHeartbeats 400000 in
theorem sum_any (l : List UInt8) (A : Option Addr) (n c : Nat) (w : World) (h : Rd w 1 A n (bv l)) (hn : n ≤ maxLen) :
    Calls Try.prog 25 #[.slice A n c] w fun e w' => e = .returned (.int .u32 (Crc.crc 0 l)) ∧ Below w.heap.size w w' := by
  go_enter Try.func25, Try.ntmps25
  go_wp2_with (go_at_call 27; refine (update_any 0 (by omega) l A n c hn _ h).mono ?_; rintro e w1 ⟨rfl, hb1⟩)
  go_ret
  exact ⟨rfl, hb1⟩

set_option maxHeartbeats 400000 in
theorem crcAppend_any (l : List UInt8) (A : Option Addr) (n c : Nat) (w : World) (h : Rd w 1 A n (bv l)) (hl : l.length ≤ 140737488355320) :
    Calls Try.prog 35 #[.slice A n c] w (Fresh w (l ++ le (Crc.crc 0 l) 4)) := by
  have hn := h.len
  subst hn
  have hn' : l.length ≤ maxLen := by unfold maxLen; omega
  have hcl := Crc.crc_lt 0 l
  go_enter Try.func35, Try.ntmps35
  go_wp2_with fail
  refine (clone_any l A _ c _ h (by omega)).mono ?_
  rintro e w1 ⟨r, rfl, hown, hb1⟩
  go_wp2_with fail
  refine (sum_any l A _ c _ (h.below hb1) hn').mono ?_
  rintro e w2 ⟨rfl, hb2⟩
  have how2 := hown.below hb2
  generalize Crc.crc 0 l = v at *
  go_wp2_with fail
  refine (little_append r l v 4 _ w.heap.size how2 (by omega) (by omega) (by omega) (Nat.le_trans hb1.size hb2.size)).mono ?_
  rintro e w3 ⟨r3, rfl, how3, hg3, _⟩
  go_wp2_with fail
  go_ret
  exact ⟨_, rfl, how3, below_grown (hb1.trans (hb2.mono hb1.size)) how2 hg3 (Nat.le_refl _) (Nat.le_trans hb1.size hb2.size)⟩

/-- Whether b ends with its checksum. -/
def chk (l : List UInt8) : Bool := decide (4 ≤ l.length) && (val (l.drop (l.length - 4)) == Crc.crc 0 (l.take (l.length - 4)))

set_option maxHeartbeats 400000 in
theorem check_any (l : List UInt8) (A : Option Addr) (n c : Nat) (w : World) (h : Rd w 1 A n (bv l)) (hnc : n ≤ c) (hn : n ≤ maxLen) :
    Calls Try.prog 36 #[.slice A n c] w fun e w' => e = .returned (.bool (chk l)) ∧ Below w.heap.size w w' := by
  have hn' := h.len
  subst hn'
  have hN : l.length ≤ 9223372036854775807 := hn
  by_cases h4 : 4 ≤ l.length
  · have hz : (0 : Int) ≤ (l.length : Int) - 4 := by omega
    have hd : decide ((4 : Int) ≤ (l.length : Int)) = true := by simp; omega
    have hcl := Crc.crc_lt 0 (l.take (l.length - 4))
    have hw := wrap_u64_nat (Crc.crc 0 (l.take (l.length - 4))) (by omega)
    go_enter Try.func36, Try.ntmps36
    go_wp2_with fail
    refine wp_region_calm w.heap.size (by kernel_rfl) ?_
    repeat (go_big_quiet_step ((first
      | (go_at_call 87; exact Calls.calm0 (little_read (l.drop (l.length - 4)) _ _ _ _ (Bel.rd _ (h.suf (l.length - 4) (by omega))) (by simp; omega)))
      | (go_at_call 25; exact Calls.calm (sum_any (l.take (l.length - 4)) _ _ _ _ (Bel.rd _ (h.pre (l.length - 4) (by omega))) (by unfold maxLen; omega)) (Nat.le_refl _)))))
    refine wpQuiet_nil ?_
    intro w' hw'
    go_wp2
    go_ret
    exact ⟨by simp [chk, h4, beq_cast], hw'⟩
  · have hd : decide ((4 : Int) ≤ (l.length : Int)) = false := by simp; omega
    have hd0 : decide ((0 : Int) ≤ (l.length : Int) - 4) = false := by simp; omega
    go_enter Try.func36, Try.ntmps36
    go_wp2_with fail
    refine wp_region_calm w.heap.size (by kernel_rfl) ?_
    repeat (go_big_quiet_step (fail))
    refine wpQuiet_nil ?_
    intro w' hw'
    go_wp2
    go_ret
    exact ⟨by simp [chk, h4], hw'⟩

/-! ## The reference. -/
theorem refUp (y b : Nat) (hy : y < 4294967296) (hb : b < 256) : bits .and .u32 (bits .xor .u32 (y : Int) (b : Int)) 255 = (((y ^^^ b) % 256 : Nat) : Int) := by
  have hx := Crc.xor_lt hy (show b < 4294967296 by omega)
  rw [u32_xor_nat y b hy (by omega)]
  have h := u32_and_nat (y ^^^ b) 255 hx (by omega)
  rw [nat_mask8] at h
  exact h

set_option maxHeartbeats 400000 in
theorem refTable_any (w : World) :
    Calls Try.prog 24 #[] w fun e w' => e = .returned (.agg tabv) ∧ Below w.heap.size w w' := by
  go_enter Try.func24, Try.ntmps24
  go_wp2
  go_loopw [2] (fun i wr => ∃ k : Nat, k ≤ 256 ∧ i = .int .i64 k ∧ wr.heap[w.heap.size + 1]? = some (.cells (tabUp k) 23 (0, 0)) ∧ wr.heap[w.heap.size]? = some (.cells (tabUp 0) 23 (0, 0)) ∧ wr.heap.size = w.heap.size + 2 ∧ Below w.heap.size w wr) (fun i _ => 256 - (intOf i).toNat)
  case atStart =>
    refine ⟨0, by omega, rfl, ?_, ?_, by simp, ((Below.refl _ _).alloc (Nat.le_refl _) _).alloc (by simp) _⟩
    · rw [zero23]; exact heap_alloc2_new _ _ _
    · rw [zero23]; exact heap_alloc2_old _ _ _
  case round =>
    obtain ⟨k, hk, rfl, hb1, hb0, hsz, hbel⟩ := hrel
    have HB1 := Lib.hid hb1
    have HB0 := Lib.hid hb0
    have HSZ := Lib.hid hsz
    clear hb1 hb0 hsz
    by_cases hlt : k < 256
    · have hc := (cell_of_row wr (w.heap.size + 1) k _ _ _ HB1.out).trans (tabUp_get k k hlt)
      have hf := frozen_of_row wr (w.heap.size + 1) k _ _ HB1.out
      go_wp2_with (go_at_call 84; refine (element_any k (by omega) _).mono ?_; rintro e w' ⟨rfl, rfl⟩)
      go_roundw
      case rel =>
        refine ⟨k + 1, by omega, by go_num, ?_, ?_, by simpa [World.setCell] using HSZ.out, hbel.setCell (by simp) _⟩
        · rw [heap_setCell_same wr _ _ _ _ _ HB1.out]; rw [← tabUp_set k hlt]
        · rw [heap_setCell_other _ _ _ _ (by simp)]; exact HB0.out
      case measure => simp [intOf]; omega
    · obtain rfl : k = 256 := by omega
      go_wp2_with (first | (refine wpList_load_row rfl 23 _ rfl (w.heap.size + 1) rfl 23 (tabUp 256) _ _ HB1.out Try.underlying23 rfl (by rw [tabUp_size]; kernel_rfl) ?_) | (refine wpList_store_row rfl 23 _ _ rfl w.heap.size (tabUp 256) rfl rfl 23 _ HB0.out (by rw [tabUp_size]; kernel_rfl) (by simp [tabUp_size]) (tabUp_one _) ?_))
      refine bodyPost_ret (results_cell_row rfl _ _ w.heap.size 23 (tabUp 256) (0, 0) _ rfl (setRow_heap _ _ _ _ _ _ HB0.out) Try.underlying23 rfl (by rw [tabUp_size]; kernel_rfl)) rfl ⟨rfl, hbel.trans ?_⟩
      exact ⟨rfl, rfl, rfl, by simp, fun i hi => setRow_other _ _ _ _ (by omega)⟩

set_option maxHeartbeats 400000 in
theorem refUpdate_any (c : Nat) (hc : c < 4294967296) (l : List UInt8) (A : Option Addr) (n cap : Nat) (hn : n ≤ maxLen) (w : World) (h : Rd w 1 A n (bv l)) :
    Calls Try.prog 32 #[.int .u32 c, .slice A n cap] w fun e w' => e = .returned (.int .u32 (Crc.crc c l)) ∧ w = w' := by
  have hnl := h.len
  subst hnl
  have hneg := b_not32 c hc
  have hsg := sg32
  have hN : l.length ≤ 9223372036854775807 := hn
  go_enter Try.func32, Try.ntmps32
  go_wp2
  clear hneg
  go_loop [0, 5] (fun s i => ∃ k : Nat, k ≤ l.length ∧ i = .int .i64 k ∧ s = .int .u32 (Crc.raw (4294967295 - c) (l.take k))) (fun _ i => l.length - (intOf i).toNat)
  case atStart => exact ⟨0, by omega, rfl, rfl⟩
  case round =>
    obtain ⟨k, hk, rfl, rfl⟩ := hrel
    have hraw : Crc.raw (4294967295 - c) (l.take k) < 4294967296 := Crc.raw_lt _ (by omega)
    by_cases hlt : k < l.length
    · obtain ⟨ad, hl, rfl, hcell⟩ := h.byte hlt
      have HS := Lib.hid (Crc.raw_take_succ (4294967295 - c) l k hl)
      generalize Crc.raw (4294967295 - c) (l.take k) = y at *
      have hby := (l[k]).toNat_lt
      generalize (l[k]).toNat = b at *
      have hx := refUp y b hraw hby
      have hz : (y ^^^ b) % 256 < 256 := by omega
      have HU : Hid (Crc.up y b = Crc.el ((y ^^^ b) % 256) ^^^ (y / 256)) := Lib.hid rfl
      generalize (y ^^^ b) % 256 = z at *
      have hel := Crc.el_lt (x := z) (by omega)
      have hq0 := u32_xor_nat (Crc.el z) (y / 256) hel (by omega)
      have hq : bits .xor .u32 (Crc.el z : Int) ((y : Int) / 256) = ((Crc.el z ^^^ y / 256 : Nat) : Int) := hq0
      clear hq0
      go_wp2_with (go_at_call 84; refine (element_any z (by omega) _).mono ?_; rintro e w' ⟨rfl, rfl⟩)
      go_round
      case rel => exact ⟨k + 1, by omega, by go_num, by rw [HS.out, HU.out]⟩
      case measure => simp [intOf]; omega
    · obtain rfl : k = l.length := by omega
      rw [List.take_length] at hraw
      have hneg := b_not32 _ hraw
      go_wp2
      go_ret
      exact ⟨rfl, rfl⟩

theorem refSum_any (l : List UInt8) (A : Option Addr) (n c : Nat) (w : World) (h : Rd w 1 A n (bv l)) (hn : n ≤ maxLen) :
    Calls Try.prog 33 #[.slice A n c] w fun e w' => e = .returned (.int .u32 (Crc.crc 0 l)) ∧ w = w' := by
  go_enter Try.func33, Try.ntmps33
  go_wp2_with (go_at_call 32; refine (refUpdate_any 0 (by omega) l A n c hn _ h).mono ?_; rintro e w1 ⟨rfl, rfl⟩)
  go_ret
  exact ⟨rfl, rfl⟩

set_option maxHeartbeats 400000 in
set_option maxHeartbeats 400000 in
theorem refNumber_any (l : List UInt8) (A : Option Addr) (m c v n : Nat) (w : World) (h : Rd w 1 A m (bv l)) (hv : v < 18446744073709551616) (hn : n ≤ 8) (hl : l.length + 8 ≤ 211106232532992) :
    Calls Try.prog 59 #[.slice A m c, .int .u64 v, .int .i64 n] w (Fresh w (l ++ le v n)) := by
  have hm := h.len
  subst hm
  go_enter Try.func59, Try.ntmps59
  go_wp2_with (at_builtin; refine wpList_append_rd rfl (.tmp 9) (.tmp 10) rfl w.heap.size _ [] rfl (Own.empty w) A l.length c l rfl (h.alloc _) (by simp; omega) (by simp) ?_; intro v1 w1 how1 hg1 hat1)
  have hb1 := below_grown ((Below.refl w.heap.size w).alloc (Nat.le_refl _) (.cells #[] 5)) (Own.empty w) hg1 (Nat.le_refl _) (by simp)
  go_loopw [7, 8] (fun s i wr => ∃ k : Nat, k ≤ n ∧ i = .int .i64 k ∧ Own wr w.heap.size s (l ++ le v k) ∧ Below w.heap.size w wr) (fun _ i _ => n - (intOf i).toNat)
  case atStart => exact ⟨0, by omega, rfl, by simpa [le] using how1, hb1⟩
  case round =>
    obtain ⟨k, hk, rfl, how, hb⟩ := hrel
    by_cases hlt : k < n
    · have q0 : 0 ≤ (v : Int) / 2 ^ (8 * k) % 256 := Int.emod_nonneg _ (by omega)
      have q1 : (v : Int) / 2 ^ (8 * k) % 256 < 256 := Int.emod_lt_of_pos _ (by omega)
      go_wp2_with (at_builtin; refine wpList_append_rd rfl (.tmp 17) (.tmp 24) rfl w.heap.size _ (l ++ le v k) rfl (how.alloc _) _ 1 1 _ rfl (Rd.one wr _ q0 q1) (by simp [le_length]; omega) (by have := hb.size; simp; omega) ?_; intro v2 w2 how2 hg2 hat2)
      go_roundw
      case rel =>
        refine ⟨k + 1, by omega, by go_num, ?_, ?_⟩
        · rw [le_succ, ← List.append_assoc, ← leb_of]; exact how2
        · exact below_grown (hb.alloc hb.size _) (how.alloc _) hg2 (Nat.le_refl _) (by have := hb.size; simp; omega)
      case measure => simp [intOf]; omega
    · obtain rfl : k = n := by omega
      go_wp2
      go_ret
      exact ⟨_, rfl, how, hb⟩

set_option maxHeartbeats 400000 in
theorem refAppend_any (l : List UInt8) (A : Option Addr) (n c : Nat) (w : World) (h : Rd w 1 A n (bv l)) (hl : l.length ≤ 140737488355320) :
    Calls Try.prog 30 #[.slice A n c] w (Fresh w (l ++ le (Crc.crc 0 l) 4)) := by
  have hn := h.len
  subst hn
  have hn' : l.length ≤ maxLen := by unfold maxLen; omega
  have hcl := Crc.crc_lt 0 l
  go_enter Try.func30, Try.ntmps30
  go_wp2_with fail
  refine (refSum_any l A _ c _ h hn').mono ?_
  rintro e w2 ⟨rfl, rfl⟩
  generalize Crc.crc 0 l = v at *
  go_wp2_with fail
  refine (refNumber_any l A _ c v 4 _ h (by omega) (by omega) (by omega)).mono ?_
  rintro e w3 ⟨r3, rfl, how3, hb3⟩
  go_wp2_with fail
  go_ret
  exact ⟨_, rfl, how3, hb3⟩

set_option maxHeartbeats 400000 in
theorem refValue_any (l : List UInt8) (A : Option Addr) (m c t n : Nat) (T : Int) (hT : T = (t : Int)) (w : World) (h : Rd w 1 A m (bv l)) (hn : n ≤ 8) (ht : t + n ≤ l.length) (hl : l.length ≤ 211106232532992) :
    Calls Try.prog 88 #[.slice A m c, .int .i64 T, .int .i64 n] w fun e w' => e = .returned (.int .u64 (val ((l.drop t).take n))) ∧ w = w' := by
  have hm := h.len
  subst hm
  subst hT
  go_enter Try.func88, Try.ntmps88
  go_wp2
  go_loop [7, 8] (fun s i => ∃ k : Nat, k ≤ n ∧ i = .int .i64 ((k : Int) - 1) ∧ s = .int .u64 (val ((l.drop (t + k)).take (n - k)))) (fun _ i => (intOf i + 1).toNat)
  case atStart => exact ⟨n, by omega, rfl, by simp [val]⟩
  case round =>
    obtain ⟨k, hk, rfl, rfl⟩ := hrel
    by_cases hlt : 0 < k
    · obtain ⟨j, rfl⟩ : ∃ j, k = j + 1 := ⟨k - 1, by omega⟩
      obtain ⟨ad, hl', rfl, hc⟩ := h.byte (k := t + j) (by omega)
      have hb := l[t + j].toNat_lt
      have hv : val ((l.drop (t + j)).take (n - j)) = l[t + j].toNat + 256 * val ((l.drop (t + (j + 1))).take (n - (j + 1))) := by
        rw [show n - j = n - (j + 1) + 1 by omega, List.drop_eq_getElem_cons hl', List.take_succ_cons]; rfl
      have hlt := val_lt ((l.drop (t + (j + 1))).take (n - (j + 1)))
      have hp : 256 ^ ((l.drop (t + (j + 1))).take (n - (j + 1))).length ≤ 256 ^ 7 := Nat.pow_le_pow_right (by omega) (by rw [List.length_take, List.length_drop]; omega)
      have HV := Lib.hid hv
      clear hv
      generalize val ((l.drop (t + (j + 1))).take (n - (j + 1))) = y at *
      generalize l[t + j].toNat = b at *
      have hy : y < 72057594037927936 := by omega
      clear hp hlt
      have hw1 : IntKind.u64.wrap ((y : Int) * 256) = (y : Int) * 256 := by rw [IntKind.wrap_u64]; omega
      have hw2 : IntKind.u64.wrap ((y : Int) * 256 + (b : Int)) = (y : Int) * 256 + (b : Int) := by rw [IntKind.wrap_u64]; omega
      go_wp2
      go_round
      case rel => exact ⟨j, by omega, rfl, by rw [HV.out]; congr 1; omega⟩
      case measure => simp [intOf]
    · obtain rfl : k = 0 := by omega
      go_wp2
      go_ret
      exact ⟨rfl, rfl⟩

set_option maxHeartbeats 400000 in
theorem refCheck_any (l : List UInt8) (A : Option Addr) (n c : Nat) (w : World) (h : Rd w 1 A n (bv l)) (hnc : n ≤ c) (hn : n ≤ 211106232532992) :
    Calls Try.prog 37 #[.slice A n c] w fun e w' => e = .returned (.bool (chk l)) ∧ Below w.heap.size w w' := by
  have hn' := h.len
  subst hn'
  by_cases h4 : 4 ≤ l.length
  · have hz : (0 : Int) ≤ (l.length : Int) - 4 := by omega
    have hd : decide ((4 : Int) ≤ (l.length : Int)) = true := by simp; omega
    have hcl := Crc.crc_lt 0 (l.take (l.length - 4))
    have hw := wrap_u64_nat (Crc.crc 0 (l.take (l.length - 4))) (by omega)
    go_enter Try.func37, Try.ntmps37
    go_wp2_with fail
    refine wp_region_calm w.heap.size (by kernel_rfl) ?_
    repeat (go_big_quiet_step ((first
      | (go_at_call 88; exact Calls.calm0 (refValue_any l _ _ _ (l.length - 4) 4 _ (by omega) _ (Bel.rd _ h) (by omega) (by omega) hn))
      | (go_at_call 33; exact Calls.calm0 (refSum_any (l.take (l.length - 4)) _ _ _ _ (Bel.rd _ (h.pre (l.length - 4) (by omega))) (by unfold maxLen; omega))))))
    refine wpQuiet_nil ?_
    intro w' hw'
    go_wp2
    go_ret
    have ht : (l.drop (l.length - 4)).take 4 = l.drop (l.length - 4) := List.take_of_length_le (by rw [List.length_drop]; omega)
    exact ⟨by simp [chk, h4, beq_cast, ht], hw'⟩
  · have hd : decide ((4 : Int) ≤ (l.length : Int)) = false := by simp; omega
    have hd0 : decide ((0 : Int) ≤ (l.length : Int) - 4) = false := by simp; omega
    go_enter Try.func37, Try.ntmps37
    go_wp2_with fail
    refine wp_region_calm w.heap.size (by kernel_rfl) ?_
    repeat (go_big_quiet_step (fail))
    refine wpQuiet_nil ?_
    intro w' hw'
    go_wp2
    go_ret
    exact ⟨by simp [chk, h4], hw'⟩

set_option maxHeartbeats 400000 in
theorem refSame_any (l m : List UInt8) (A B : Option Addr) (n c n' c' : Nat) (w : World) (h : Rd w 1 A n (bv l)) (h' : Rd w 1 B n' (bv m)) (hn : n ≤ maxLen) (hn' : n' ≤ maxLen) :
    Calls Try.prog 34 #[.slice A n c, .slice B n' c'] w fun e w' => e = .returned (.bool (l == m)) ∧ ∃ k, w' = w.drewN k := by
  have e1 := h.len
  have e2 := h'.len
  subst e1 e2
  have hN : l.length ≤ 9223372036854775807 := hn
  have hM : m.length ≤ 9223372036854775807 := hn'
  by_cases hlen : l.length = m.length
  · have hne : ((l.length : Int) != (m.length : Int)) = false := by simp; omega
    have HL := Lib.hid hlen
    go_enter Try.func34, Try.ntmps34
    clear hlen
    go_wp2
    go_loopw [5] (fun i wr => ∃ k : Nat, k ≤ l.length ∧ i = .int .i64 k ∧ l.take k = m.take k ∧ ∃ d, wr = w.drewN d) (fun i _ => l.length - (intOf i).toNat)
    case atStart => exact ⟨0, by omega, rfl, rfl, 0, rfl⟩
    case round =>
      obtain ⟨k, hk, rfl, htk, d, rfl⟩ := hrel
      have HT := Lib.hid htk
      clear htk
      by_cases hlt : k < l.length
      · obtain ⟨ad, hl1, rfl, hc1⟩ := h.byte hlt
        obtain ⟨bd, hl2, rfl, hc2⟩ := h'.byte (k := k) (by have := HL.out; omega)
        by_cases hb : l[k] = m[k]
        · have hq : ((l[k].toNat : Int) != (m[k].toNat : Int)) = false := by simp [hb]
          have HB := Lib.hid hb
          clear hb
          go_wp2_with fail
          go_quiet (fail)
          go_wp2
          go_roundw
          case rel => exact ⟨k + 1, by omega, by go_num, by rw [List.take_succ_eq_append_getElem hl1, List.take_succ_eq_append_getElem hl2, HT.out, HB.out], _, rfl⟩
          case measure => simp [intOf]; omega
        · have hq : ((l[k].toNat : Int) != (m[k].toNat : Int)) = true := by
            rw [bne_iff_ne]; intro e; exact hb (UInt8.toNat_inj.1 (by omega))
          have HB := Lib.hid hb
          clear hb
          go_wp2_with fail
          go_quiet (fail)
          go_wp2
          go_ret
          refine ⟨?_, d + nq, by rw [World.drewN_drewN]⟩
          have : (l == m) = false := by
            rw [beq_eq_false_iff_ne]; intro e; subst e; exact HB.out rfl
          rw [this]
          rfl
      · obtain rfl : k = l.length := by omega
        go_wp2
        go_ret
        refine ⟨?_, _, rfl⟩
        have : (l == m) = true := by
          have h1 := HT.out
          rw [List.take_length, HL.out, List.take_length] at h1
          simpa using h1
        rw [this]
        rfl
  · have hne : ((l.length : Int) != (m.length : Int)) = true := by simp; omega
    have HL := Lib.hid hlen
    clear hlen
    go_enter Try.func34, Try.ntmps34
    go_wp2
    go_ret
    refine ⟨?_, 0, rfl⟩
    have : (l == m) = false := by
      rw [beq_eq_false_iff_ne]; intro e; subst e; exact HL.out rfl
    rw [this]
    rfl
end Go.Proofs.Ytabgmodllifgjaa
