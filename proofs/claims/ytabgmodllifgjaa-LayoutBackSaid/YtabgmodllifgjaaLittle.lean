/- The walks of little.Append, little.Read and slices.Clone at bytes. Conditions: at most eight bytes of a number; lengths below 2^47. -/
import Derived.Test.YtabgmodllifgjaaOwn
namespace Go.Proofs.Ytabgmodllifgjaa
open Go.RowKit
set_option maxRecDepth 100000
set_option linter.unusedVariables false

set_option maxHeartbeats 400000 in
theorem little_append (b : Value) (l : List UInt8) (v n : Nat) (w : World) (base : Nat) (hown : Own w base b l) (hv : v < 18446744073709551616) (hn : n ≤ 8) (hl : l.length + 8 ≤ 140737488355328) (hbase : base ≤ w.heap.size) :
    Calls Try.prog 85 #[b, .int .u64 v, .int .i64 n] w (Onto w base b (l ++ le v n)) := by
  go_enter Try.func85, Try.ntmps85
  go_wp2
  go_loopw [0, 9] (fun s i wr => ∃ k : Nat, k ≤ n ∧ i = .int .i64 k ∧ Own wr base s (l ++ le v k) ∧ w.grownBy wr b.ownBlock ∧ (s.ownBlock = b.ownBlock ∨ ∃ g, s.ownBlock = some g ∧ w.heap.size ≤ g)) (fun _ i _ => n - (intOf i).toNat)
  case atStart => exact ⟨0, by omega, rfl, by simpa [le] using hown, World.grownBy.refl _ _, .inl rfl⟩
  case round =>
    obtain ⟨k, hk, rfl, how, hg, hor⟩ := hrel
    by_cases hlt : k < n
    · have H := Lib.hid hor
      clear hor
      have q0 : 0 ≤ (v : Int) / 2 ^ (8 * k) % 256 := Int.emod_nonneg _ (by omega)
      have q1 : (v : Int) / 2 ^ (8 * k) % 256 < 256 := Int.emod_lt_of_pos _ (by omega)
      go_wp2_with (at_builtin; refine wpList_append_rd rfl (.tmp 12) (.tmp 18) rfl base _ (l ++ le v k) rfl (how.alloc _) _ 1 1 _ rfl (Rd.one wr _ q0 q1) (by simp [le_length]; omega) (by have := hg.size; simp; omega) ?_; intro v1 w1 how1 hg1 hat1)
      go_roundw
      case rel =>
        refine ⟨k + 1, by omega, by go_num, ?_, ?_, ?_⟩
        · rw [le_succ, ← List.append_assoc, ← leb_of]; exact how1
        · exact grown_step (grown_alloc hg _) hg1 H.out
        · exact own_step H.out hat1 (by have := hg.size; simp; omega)
      case measure => simp [intOf]; omega
    · obtain rfl : k = n := by omega
      have H := Lib.hid hor
      clear hor
      go_wp2
      go_ret
      exact ⟨_, rfl, how, hg, H.out⟩

set_option maxHeartbeats 400000 in
theorem clone_any (l : List UInt8) (A : Option Addr) (n c : Nat) (w : World) (h : Rd w 1 A n (bv l)) (hl : l.length ≤ 140737488355328) :
    Calls Try.prog 86 #[.slice A n c] w (Fresh w l) := by
  have hn := h.len
  subst hn
  by_cases hnil : A = none
  · subst hnil
    have h0 : l = [] := by
      rcases Nat.eq_zero_or_pos l.length with h0 | h0
      · exact List.eq_nil_of_length_eq_zero h0
      · obtain ⟨ad, e, _⟩ := h.2 h0; cases e
    subst h0
    go_enter Try.func86, Try.ntmps86
    go_wp2
    go_ret
    exact ⟨_, rfl, Own.nil _ _, Below.refl _ _⟩
  · obtain ⟨ad, rfl⟩ := Option.ne_none_iff_exists'.1 hnil
    go_enter Try.func86, Try.ntmps86
    go_wp2_with (at_builtin; refine wpList_append_rd rfl (.tmp 5) (.tmp 6) rfl w.heap.size _ [] rfl (Own.empty w) (some ad) l.length c l rfl (h.alloc _) (by simp; omega) (by simp) ?_; intro v1 w1 how1 hg1 hat1)
    go_ret
    exact ⟨_, rfl, how1, below_grown ((Below.refl _ _).alloc (Nat.le_refl _) _) (Own.empty w) hg1 (Nat.le_refl _) (by simp)⟩

/-- The number that bytes are, the least significant one first. -/
def val : List UInt8 → Nat
  | [] => 0
  | b :: l => b.toNat + 256 * val l
theorem val_lt : ∀ l : List UInt8, val l < 256 ^ l.length
  | [] => by simp [val]
  | b :: l => by
    have h := val_lt l
    have hb := b.toNat_lt
    simp only [val, List.length_cons, Nat.pow_succ]
    omega
theorem val_append (a b : List UInt8) : val (a ++ b) = val a + 256 ^ a.length * val b := by
  induction a with
  | nil => simp [val]
  | cons x a ih => simp only [List.cons_append, val, ih, List.length_cons, Nat.pow_succ, Nat.mul_add]; rw [Nat.mul_comm (256 ^ a.length) 256, Nat.mul_assoc]; omega
theorem val_take_succ (l : List UInt8) (k : Nat) (h : k < l.length) : val (l.take (k + 1)) = val (l.take k) + 256 ^ k * l[k].toNat := by
  rw [List.take_succ_eq_append_getElem h, val_append]
  simp [val, Nat.min_eq_left (Nat.le_of_lt h)]
theorem pow256 (k : Nat) : 256 ^ k = 2 ^ (8 * k) := by rw [Nat.pow_mul]
theorem or_shift (y b k : Nat) (hy : y < 256 ^ k) (hb : b < 256) (hk : k < 8) :
    bits .or .u64 (y : Int) (IntKind.u64.wrap ((b : Int) * 2 ^ (8 * k))) = ((y + 256 ^ k * b : Nat) : Int) := by
  have h1 : b * 2 ^ (8 * k) < 2 ^ 64 := by
    have : b * 2 ^ (8 * k) < 2 ^ 8 * 2 ^ (8 * k) := Nat.mul_lt_mul_of_pos_right hb (Nat.two_pow_pos _)
    rw [← Nat.pow_add] at this
    exact Nat.lt_of_lt_of_le this (Nat.pow_le_pow_right (by omega) (by omega))
  have hw : IntKind.u64.wrap ((b : Int) * 2 ^ (8 * k)) = ((b * 2 ^ (8 * k) : Nat) : Int) := by
    have e : (b : Int) * 2 ^ (8 * k) = ((b * 2 ^ (8 * k) : Nat) : Int) := by push_cast; rfl
    rw [IntKind.wrap_u64, e]
    generalize b * 2 ^ (8 * k) = z at *
    omega
  have hy2 : y < 2 ^ 64 := Nat.lt_of_lt_of_le hy (by rw [pow256]; exact Nat.pow_le_pow_right (by omega) (by omega))
  rw [hw, u64_or_nat y _ hy2 h1, Nat.or_comm]
  rw [nat_join (8 * k) _ y (Nat.mul_mod_left _ _) (by rw [← pow256]; exact hy), pow256, Nat.mul_comm b, Nat.add_comm]

set_option maxHeartbeats 400000 in
theorem little_read (l : List UInt8) (A : Option Addr) (n c : Nat) (w : World) (h : Rd w 1 A n (bv l)) (hl : l.length ≤ 8) :
    Calls Try.prog 87 #[.slice A n c] w fun e w' => e = .returned (.int .u64 (val l)) ∧ w = w' := by
  have hn := h.len
  subst hn
  go_enter Try.func87, Try.ntmps87
  go_wp2
  go_loop [3, 8] (fun s i => ∃ k : Nat, k ≤ l.length ∧ i = .int .i64 k ∧ s = .int .u64 (val (l.take k))) (fun _ i => l.length - (intOf i).toNat)
  case atStart => exact ⟨0, by omega, rfl, rfl⟩
  case round =>
    obtain ⟨k, hk, rfl, rfl⟩ := hrel
    by_cases hlt : k < l.length
    · obtain ⟨ad, hl', rfl, hc⟩ := h.byte hlt
      have hb := l[k].toNat_lt
      have hy := val_lt (l.take k)
      rw [List.length_take, Nat.min_eq_left hk] at hy
      have HS := Lib.hid (val_take_succ l k hlt)
      generalize l[k].toNat = b at *
      generalize val (l.take k) = y at *
      have HO := Lib.hid (or_shift y b k hy hb (by omega))
      go_wp2
      go_round
      case rel => exact ⟨k + 1, by omega, by go_num, by rw [HO.out, HS.out]⟩
      case measure => simp [intOf]; omega
    · obtain rfl : k = l.length := by omega
      go_wp2
      go_ret
      exact ⟨rfl, rfl⟩
end Go.Proofs.Ytabgmodllifgjaa
