/- The tape with its list: Next exactly. Conditions: lists of at most 2^47 numbers. -/
import Derived.Test.YtabgmodllifgjaaSpoiled
namespace Go.Proofs.Ytabgmodllifgjaa
open Go.RowKit
set_option maxRecDepth 100000
set_option linter.unusedVariables false

/-- What a tape of the numbers l hands out next, k numbers being taken. -/
def nx (l : List Int) (k : Nat) (m : Int) : Int := modz (l.getD k 0) m
def adv (l : List Int) (k : Nat) : Nat := if k < l.length then k + 1 else k
theorem nx_range (l : List Int) (k : Nat) {m : Int} (h : 1 ≤ m) : 0 ≤ nx l k m ∧ nx l k m < m := modz_range _ h
theorem nx_nonneg (l : List Int) (k : Nat) (m : Int) : 0 ≤ nx l k m := modz_nonneg _ m
structure TapeC (A : Option Addr) (n c : Nat) (l : List Int) (w : World) (p k : Nat) : Prop where
  at_ : w.heap[p]? = some (.cells #[.slice A n c, .int .i64 (k : Int)] 110 (0, 0))
  rd : Rd w 1 A n (iv l)
  ints : Ints l
  le : n ≤ 140737488351232
  ne : 0 < n → ∀ ad, A = some ad → ad.block ≠ p

set_option maxHeartbeats 400000 in
theorem next_ex {A : Option Addr} {n c : Nat} {l : List Int} {k : Nat} (p : Nat) (m : Int) (hm : -9223372036854775808 ≤ m ∧ m < 9223372036854775808) (w : World) (h : TapeC A n c l w p k) :
    Calls Try.prog 29 #[.pointer (some ⟨p, 0, none⟩), .int .i64 m] w fun e w' => e = .returned (.int .i64 (nx l k m)) ∧ TapeC A n c l w' p (adv l k) ∧ w.grownBy w' (some p) := by
  obtain ⟨hb, hR, hI, hn, hA⟩ := h
  have hlen : n = l.length := by have := hR.1; rw [iv_len] at this; omega
  have hc0 : w.cell? ⟨p, 0, none⟩ = some (.slice A n c) := cell_of_row w p 0 _ _ _ hb
  have hc1 : w.cell? ⟨p, 1, none⟩ = some (.int .i64 (k : Int)) := cell_of_row w p 1 _ _ _ hb
  have hf1 : w.frozen? ⟨p, 1, none⟩ = false := frozen_of_row w p 1 _ _ hb
  have HB := Lib.hid hb
  have HL := Lib.hid hlen
  clear hb hlen
  by_cases hlt : k < n
  · have hd : decide ((n : Int) ≤ (k : Int)) = false := by simp; omega
    go_enter Try.func29, Try.ntmps29
    go_wp2_with fail
    go_quiet (fail)
    go_wp2_with fail
    have hg : w.grownBy ((w.drewN nq).setCell ⟨p, 1, none⟩ (.int .i64 ((k : Int) + 1))) (some p) := grown_setCell (grown_drewN (World.grownBy.refl w _) nq) 1 _
    have hb2 : ((w.drewN nq).setCell ⟨p, 1, none⟩ (.int .i64 ((k : Int) + 1))).heap[p]? = some (.cells #[.slice A n c, .int .i64 ((k : Int) + 1)] 110 (0, 0)) :=
      heap_setCell_same (w.drewN nq) p 1 _ _ _ HB.out
    generalize (w.drewN nq).setCell ⟨p, 1, none⟩ (.int .i64 ((k : Int) + 1)) = w2 at *
    clear hc0 hc1 hf1
    have hR2 := hR.grown hg hA
    have hc0 : w2.cell? ⟨p, 0, none⟩ = some (.slice A n c) := cell_of_row w2 p 0 _ _ _ hb2
    have hc1 : w2.cell? ⟨p, 1, none⟩ = some (.int .i64 ((k : Int) + 1)) := cell_of_row w2 p 1 _ _ _ hb2
    have HB2 := Lib.hid hb2
    clear hb2
    obtain ⟨ad, u, rfl, hu, hc⟩ := hR2.at_ hlt
    have hkl : k < l.length := by have := HL.out; omega
    rw [iv_get l k hkl] at hu
    injection hu with hu
    subst hu
    have hx := hI l[k] (List.getElem_mem hkl)
    have HD : Hid (nx l k m = modz l[k] m) := Lib.hid (by simp [nx, hkl])
    have HV : Hid (adv l k = k + 1) := Lib.hid (by unfold adv; rw [if_pos hkl])
    generalize l[k] = x at *
    have hi1 : (0 : Int) ≤ (k : Int) + 1 - 1 := by omega
    have hi2 : ((k : Int) + 1 - 1) < (n : Int) := by omega
    go_quiet ((go_at_call 26; exact Calls.quiet_of_left (mod_any x m _ hx hm)))
    go_wp2
    go_ret
    refine ⟨by rw [HD.out]; rfl, ⟨by rw [HV.out]; exact HB2.out, hR2, hI, hn, hA⟩, grown_drewN hg _⟩
  · have hd : decide ((n : Int) ≤ (k : Int)) = true := by simp; omega
    go_enter Try.func29, Try.ntmps29
    go_wp2_with fail
    go_quiet (fail)
    go_wp2
    go_ret
    have h0 : l.length ≤ k := by have := HL.out; omega
    refine ⟨?_, ⟨by rw [show adv l k = k by unfold adv; rw [if_neg (by omega)]]; exact HB.out, hR, hI, hn, hA⟩, grown_drewN (World.grownBy.refl _ _) _⟩
    have : nx l k m = 0 := by
      unfold nx
      rw [List.getD_eq_getElem?_getD, List.getElem?_eq_none h0]
      simp [modz]
    rw [this]
    rfl
end Go.Proofs.Ytabgmodllifgjaa
