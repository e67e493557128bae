/- Contracts of chapter 07's functions that encode. Conditions: a payload of at most 2^47 - 64 bytes. -/
import Derived.Test.YtabgmodllifgjaaJoin
namespace Go.Proofs.Ytabgmodllifgjaa
open Go.RowKit
set_option maxRecDepth 100000
set_option linter.unusedVariables false

/-- Bytes with their checksum. -/
def sealed (l : List UInt8) : List UInt8 := l ++ le (Crc.crc 0 l) 4
theorem sealed_len (l : List UInt8) : (sealed l).length = l.length + 4 := by simp [sealed, le_length]
def headF (kind : UInt8) (n : Nat) : List UInt8 := kind :: le n 4
/-- A frame. -/
def encF (kind : UInt8) (p : List UInt8) : List UInt8 := sealed (headF kind p.length) ++ sealed p
theorem headF_len (kind : UInt8) (n : Nat) : (headF kind n).length = 5 := by simp [headF, le_length]
theorem encF_len (kind : UInt8) (p : List UInt8) : (encF kind p).length = p.length + 13 := by simp [encF, sealed_len, headF_len]; omega

/-- A row just built. -/
theorem Rd.built (w : World) (cs : Array Value) (T : TypeId) (fz : Nat × Nat) : Rd (w.alloc (.cells cs T fz)) 1 (some ⟨w.heap.size, 0, none⟩) cs.size cs.toList := by
  refine ⟨by simp, fun _ => ⟨_, rfl, fun j u hu => ?_⟩⟩
  have hg : (w.alloc (.cells cs T fz)).heap[w.heap.size]? = some (.cells cs T fz) := heap_alloc_new _ _
  have := cell_of_row _ w.heap.size j cs T fz hg
  have e : (⟨w.heap.size, 0, none⟩ : Addr).add j = ⟨w.heap.size, j, none⟩ := by unfold Addr.add; by_cases h : j = 0 <;> simp [h]
  rw [e, this]
  simpa using hu
theorem Own.one (w : World) (x : UInt8) : Own (w.alloc (.cells #[.int .u8 x.toNat] 5)) w.heap.size (.slice (some ⟨w.heap.size, 0, none⟩) 1 1) [x] :=
  ⟨by simp [bv], .inr ⟨w.heap.size, 1, _, rfl, Nat.le_refl _, heap_alloc_new _ _, Nat.le_refl _, by unfold maxLen; omega, rfl, rfl⟩⟩

set_option maxHeartbeats 1000000 in
theorem frameEncode_any (kind : UInt8) (l : List UInt8) (A : Option Addr) (n c : Nat) (w : World) (h : Rd w 1 A n (bv l)) (hl : l.length ≤ 4194304) :
    Calls Try.prog 67 #[.int .u8 kind.toNat, .slice A n c] w (fun e w' => ∃ r, e = .returned (.tuple #[r, .int .i64 0]) ∧ Own w' w.heap.size r (encF kind l) ∧ Below w.heap.size w w') := by
  have hn := h.len
  subst hn
  have hlt : ¬ ((4194304 : Int) < (l.length : Int)) := by omega
  have hwr : IntKind.u64.wrap (l.length : Int) = (l.length : Int) := by rw [IntKind.wrap_u64]; omega
  go_enter Try.func67, Try.ntmps67
  go_wp2_with fail
  refine (little_append _ [kind] l.length 4 _ w.heap.size (Own.one w kind) (by omega) (by omega) (by simp) (by simp)).mono ?_
  rintro e w1 ⟨v1, rfl, how1, hg1, hat1⟩
  have hb1 : Below w.heap.size w w1 := below_grown ((Below.refl _ _).alloc (Nat.le_refl _) _) (Own.one w kind) hg1 (Nat.le_refl _) (by simp)
  have HE : Hid (encF kind l = sealed (headF kind l.length) ++ sealed l) := Lib.hid rfl
  have hL5 := headF_len kind l.length
  change Own w1 w.heap.size v1 (headF kind l.length) at how1
  generalize headF kind l.length = hd at *
  have hLs : (sealed l).length ≤ 4194308 := by rw [sealed_len]; omega
  have hLd : (sealed hd).length ≤ 9 := by rw [sealed_len]; omega
  have hl5 : hd.length ≤ 5 := by omega
  clear hL5
  obtain ⟨A1, c1, rfl, r1, hc1, _⟩ := how1.form
  have hl1 := h.below hb1
  clear hg1 hat1
  go_wp2_with fail
  refine (crcAppend_any hd A1 _ c1 w1 r1 (by omega)).mono ?_
  rintro e w2 ⟨v2, rfl, how2, hb2⟩
  have hl2 := hl1.below hb2
  have hbb2 := hb1.trans (hb2.mono hb1.size)
  go_wp2_with fail
  refine (crcAppend_any l A _ c w2 hl2 (by omega)).mono ?_
  rintro e w3 ⟨v3, rfl, how3, hb3⟩
  have how23 := how2.below hb3
  have hbb3 := hbb2.trans (hb3.mono hbb2.size)
  change Own w3 _ v2 (sealed hd) at how23
  change Own w3 _ v3 (sealed l) at how3
  clear how2 how1 r1 hc1
  obtain ⟨A2, c2, rfl, _, _, _⟩ := how23.form
  obtain ⟨A3, c3, rfl, _, _, _⟩ := how3.form
  go_wp2_with fail
  have hB := Rd.built w3 #[.slice A2 (sealed hd).length c2, .slice A3 (sealed l).length c3] 27 (0, 0)
  refine (concat_any [(.slice A2 (sealed hd).length c2, sealed hd), (.slice A3 (sealed l).length c3, sealed l)] _ _ _ _ hB (fun p hp => ?_) (by simp [lens]; omega) (by simp)).mono ?_
  · simp only [List.mem_cons, List.not_mem_nil, or_false] at hp
    rcases hp with rfl | rfl
    · exact IsRd.of_own (how23.alloc _)
    · exact IsRd.of_own (how3.alloc _)
  rintro e w4 ⟨v4, rfl, how4, hb4⟩
  have e4 : join [(.slice A2 (sealed hd).length c2, sealed hd), (.slice A3 (sealed l).length c3, sealed l)] = sealed hd ++ sealed l := by simp [join]
  rw [e4] at how4
  have hbb4 : Below w.heap.size w w4 := (hbb3.alloc hbb3.size _).trans (hb4.mono (by have := hbb3.size; simp; omega))
  go_wp2_with fail
  go_ret2
  exact ⟨_, rfl, HE.out ▸ how4.mono (by have := hbb3.size; simp; omega), hbb4⟩

theorem frameEncode_big (kind : UInt8) (A : Option Addr) (n c : Nat) (w : World) (hl : 4194304 < n) (hn : n ≤ maxLen) :
    Calls Try.prog 67 #[.int .u8 kind.toNat, .slice A n c] w (fun e w' => e = .returned (.tuple #[.slice none 0 0, .int .i64 3]) ∧ w = w') := by
  have hlt : (4194304 : Int) < (n : Int) := by omega
  go_enter Try.func67, Try.ntmps67
  go_wp2_with fail
  go_ret2
  exact ⟨rfl, rfl⟩
theorem refFrameEncode_big (kind : UInt8) (A : Option Addr) (n c : Nat) (w : World) (hl : 4194304 < n) (hn : n ≤ maxLen) :
    Calls Try.prog 68 #[.int .u8 kind.toNat, .slice A n c] w (fun e w' => e = .returned (.tuple #[.slice none 0 0, .int .i64 3]) ∧ w = w') := by
  have hlt : (4194304 : Int) < (n : Int) := by omega
  go_enter Try.func68, Try.ntmps68
  go_wp2_with fail
  go_ret2
  exact ⟨rfl, rfl⟩

set_option maxHeartbeats 1000000 in
theorem refFrameEncode_any (kind : UInt8) (l : List UInt8) (A : Option Addr) (n c : Nat) (w : World) (h : Rd w 1 A n (bv l)) (hl : l.length ≤ 4194304) :
    Calls Try.prog 68 #[.int .u8 kind.toNat, .slice A n c] w (fun e w' => ∃ r, e = .returned (.tuple #[r, .int .i64 0]) ∧ Own w' w.heap.size r (encF kind l) ∧ Below w.heap.size w w') := by
  have hn := h.len
  subst hn
  have hlt : ¬ ((4194304 : Int) < (l.length : Int)) := by omega
  have hwr : IntKind.u64.wrap (l.length : Int) = (l.length : Int) := by rw [IntKind.wrap_u64]; omega
  go_enter Try.func68, Try.ntmps68
  go_wp2_with fail
  have h1 : Rd (w.alloc (.cells #[.int .u8 kind.toNat] 5)) 1 (some ⟨w.heap.size, 0, none⟩) 1 (bv [kind]) := Rd.built w #[.int .u8 kind.toNat] 5 (0, 0)
  refine (refNumber_any [kind] _ _ 1 l.length 4 _ h1 (by omega) (by omega) (by simp)).mono ?_
  rintro e w1 ⟨v1, rfl, how1, hb1⟩
  have hbb1 : Below w.heap.size w w1 := ((Below.refl _ _).alloc (Nat.le_refl _) _).trans (hb1.mono (by simp))
  have HE : Hid (encF kind l = sealed (headF kind l.length) ++ sealed l) := Lib.hid rfl
  have hL5 := headF_len kind l.length
  change Own w1 _ v1 (headF kind l.length) at how1
  generalize headF kind l.length = hd at *
  have hLs : (sealed l).length ≤ 4194308 := by rw [sealed_len]; omega
  have hLd : (sealed hd).length ≤ 9 := by rw [sealed_len]; omega
  have hl5 : hd.length ≤ 5 := by omega
  clear hL5
  obtain ⟨A1, c1, rfl, r1, hc1, _⟩ := how1.form
  have hl1 := h.below hbb1
  clear h1 hb1
  go_wp2_with fail
  refine (refAppend_any hd A1 _ c1 w1 r1 (by omega)).mono ?_
  rintro e w2 ⟨v2, rfl, how2, hb2⟩
  have hl2 := hl1.below hb2
  have hbb2 := hbb1.trans (hb2.mono hbb1.size)
  clear how1 r1 hc1
  go_wp2_with fail
  refine (refAppend_any l A _ c w2 hl2 (by omega)).mono ?_
  rintro e w3 ⟨v3, rfl, how3, hb3⟩
  have how23 := how2.below hb3
  have hbb3 := hbb2.trans (hb3.mono hbb2.size)
  change Own w3 _ v2 (sealed hd) at how23
  change Own w3 _ v3 (sealed l) at how3
  obtain ⟨A3, c3, rfl, r3, hc3, _⟩ := how3.form
  have hs1 := hbb1.size
  have hs3 := hb3.size
  have hs2 := hb2.size
  go_wp2_with (at_builtin; refine wpList_append_rd rfl (.tmp 17) (.tmp 19) rfl w1.heap.size _ _ rfl how23 A3 (sealed l).length c3 (sealed l) rfl r3 (by omega) (by omega) ?_; intro v4 w4 how4 hg4 hat4)
  have hbb4 : Below w.heap.size w w4 := below_grown hbb3 how23 hg4 hs1 hbb3.size
  go_ret2
  exact ⟨_, rfl, HE.out ▸ how4.mono hs1, hbb4⟩

def sizeF (n : Int) : Int := if n < 0 ∨ 4194304 < n then 0 else n + 13
theorem frameSize_any (n : Int) (w : World) (h1 : -9223372036854775808 ≤ n ∧ n < 9223372036854775808) :
    Calls Try.prog 70 #[.int .i64 n] w (fun e w' => e = .returned (.int .i64 (sizeF n)) ∧ w = w') := by
  unfold sizeF
  rcases (show n < 0 ∨ (¬ n < 0 ∧ 4194304 < n) ∨ (¬ n < 0 ∧ ¬ 4194304 < n) by omega) with h | ⟨h, h'⟩ | ⟨h, h'⟩
  · go_enter Try.func70, Try.ntmps70
    go_wp2
    go_ret
    exact ⟨by simp, rfl⟩
  · go_enter Try.func70, Try.ntmps70
    go_wp2
    go_ret
    exact ⟨by simp, rfl⟩
  · have e1 : IntKind.i64.wrap (9 + n) = 9 + n := IntWalk.i64_in _ (by omega)
    have e2 : IntKind.i64.wrap (9 + n + 4) = 9 + n + 4 := IntWalk.i64_in _ (by omega)
    go_enter Try.func70, Try.ntmps70
    go_wp2
    go_ret
    exact ⟨by simp; omega, rfl⟩
theorem refFrameSize_any (n : Int) (w : World) (h1 : -9223372036854775808 ≤ n ∧ n < 9223372036854775808) :
    Calls Try.prog 71 #[.int .i64 n] w (fun e w' => e = .returned (.int .i64 (sizeF n)) ∧ w = w') := by
  unfold sizeF
  rcases (show n < 0 ∨ (¬ n < 0 ∧ 4194304 < n) ∨ (¬ n < 0 ∧ ¬ 4194304 < n) by omega) with h | ⟨h, h'⟩ | ⟨h, h'⟩
  · go_enter Try.func71, Try.ntmps71
    go_wp2
    go_ret
    exact ⟨by simp, rfl⟩
  · go_enter Try.func71, Try.ntmps71
    go_wp2
    go_ret
    exact ⟨by simp, rfl⟩
  · have e1 : IntKind.i64.wrap (13 + n) = 13 + n := IntWalk.i64_in _ (by omega)
    go_enter Try.func71, Try.ntmps71
    go_wp2
    go_ret
    exact ⟨by simp; omega, rfl⟩
end Go.Proofs.Ytabgmodllifgjaa
