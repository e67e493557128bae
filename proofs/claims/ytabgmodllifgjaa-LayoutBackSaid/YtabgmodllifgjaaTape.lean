/- The walks of tscodecmade.New and (*Tape).Next. Conditions: none beside that the numbers are of type int. -/
import Derived.Test.YtabgmodllifgjaaMade1
namespace Go.Proofs.Ytabgmodllifgjaa
open Go.RowKit
set_option maxRecDepth 100000
set_option linter.unusedVariables false

theorem Calls.quiet_of_left {P : Program} {f : FuncId} {args : Array Value} {w : World} {n : Nat} {v : Value}
    (h : Calls P f args (w.drewN n) fun e w' => e = .returned v ∧ w.drewN n = w') : Calls P f args (w.drewN n) fun e w'' => e = .returned v ∧ ∃ m, w'' = w.drewN m :=
  h.mono fun _ _ ⟨he, hm⟩ => ⟨he, n, hm.symm⟩
/-- The cells of a list of ints. -/
def iv (l : List Int) : List Value := l.map (Value.int .i64)
theorem iv_len (l : List Int) : (iv l).length = l.length := by simp [iv]
theorem iv_get (l : List Int) (k : Nat) (h : k < l.length) : (iv l)[k]? = some (.int .i64 (l[k]'h)) := by simp [iv, h]
def Ints (l : List Int) : Prop := ∀ x ∈ l, -9223372036854775808 ≤ x ∧ x < 9223372036854775808
theorem IsRow.ints {w : World} {a : Option Addr} {len cap : Nat} {zs : List Int} (h : IsRow .i64 w a len cap zs) :
    ∃ l : List Int, l.length = len ∧ len ≤ cap ∧ Ints l ∧ Rd w 1 a len (iv l) := by
  obtain ⟨h1, h2, h3, h4⟩ := h.vals
  exact ⟨zs.take len, h2, h1, fun x hx => wf_i64 (h3 x hx), h4⟩

/-- Block p is a tape on which the numbers r are still to come. -/
def TapeAt (w : World) (p : Nat) (r : List Int) : Prop :=
  ∃ (A : Option Addr) (n c k : Nat) (l : List Int), w.heap[p]? = some (.cells #[.slice A n c, .int .i64 (k : Int)] 110 (0, 0)) ∧ Rd w 1 A n (iv l) ∧ Ints l ∧ k ≤ n ∧ n ≤ 140737488351232 ∧ r = l.drop k ∧ (0 < n → ∀ ad, A = some ad → ad.block < p)
def hdz (r : List Int) (n : Int) : Int := match r with | [] => 0 | x :: _ => modz x n

set_option maxHeartbeats 400000 in
theorem new_any (l : List Int) (A : Option Addr) (n c : Nat) (w : World) (h : Rd w 1 A n (iv l)) (hl : Ints l) (hn : n ≤ 140737488351232) (hA : 0 < n → ∀ ad, A = some ad → ad.block < w.heap.size) :
    Calls Try.prog 28 #[.slice A n c] w fun e w' => e = .returned (.pointer (some ⟨w.heap.size, 0, none⟩)) ∧ TapeAt w' w.heap.size l ∧ Below w.heap.size w w' := by
  go_enter Try.func28, Try.ntmps28
  go_wp2
  go_ret
  exact ⟨rfl, ⟨A, n, c, 0, l, heap_alloc_new _ _, h.alloc _, hl, by omega, hn, rfl, hA⟩, (Below.refl _ _).alloc (Nat.le_refl _) _⟩

theorem grown_setCell {a w : World} {g : Nat} (h : a.grownBy w (some g)) (j : Nat) (u : Value) : a.grownBy (w.setCell ⟨g, j, none⟩ u) (some g) :=
  ⟨h.os, h.tape, h.output, by simpa [World.setCell] using h.size, fun i hi hne => (Below.heap_setCell w ⟨g, j, none⟩ u i (by rintro rfl; exact hne rfl)).trans (h.block i hi hne)⟩
theorem grown_drewN {a w : World} {row : Option Nat} (h : a.grownBy w row) (n : Nat) : a.grownBy (w.drewN n) row := ⟨h.os, h.tape, h.output, h.size, h.block⟩
theorem Rd.grown {w w' : World} {size n : Nat} {A : Option Addr} {vs : List Value} {p : Nat} (h : Rd w size A n vs) (hg : w.grownBy w' (some p)) (hA : 0 < n → ∀ ad, A = some ad → ad.block ≠ p) : Rd w' size A n vs :=
  ⟨h.1, fun hn => by
    obtain ⟨ad, e, hc⟩ := h.2 hn
    refine ⟨ad, e, fun j u hu => ?_⟩
    have h1 := hc j u hu
    have hb := block_lt_of_cell h1
    rw [add_block] at hb
    exact (World.cell?_of_block (hg.block _ (by rw [add_block]; exact hb) (by rw [add_block]; intro he; injection he with he; exact hA hn ad e he))).trans h1⟩

set_option maxHeartbeats 400000 in
theorem next_any (p : Nat) (r : List Int) (m : Int) (hm : -9223372036854775808 ≤ m ∧ m < 9223372036854775808) (w : World) (h : TapeAt w p r) :
    Calls Try.prog 29 #[.pointer (some ⟨p, 0, none⟩), .int .i64 m] w fun e w' => e = .returned (.int .i64 (hdz r m)) ∧ TapeAt w' p r.tail ∧ w.grownBy w' (some p) := by
  obtain ⟨A, n, c, k, l, hb, hR, hI, hk, hn, rfl, hA⟩ := h
  have hlen : n = l.length := by have := hR.1; rw [iv_len] at this; omega
  have hc0 : w.cell? ⟨p, 0, none⟩ = some (.slice A n c) := cell_of_row w p 0 _ _ _ hb
  have hc1 : w.cell? ⟨p, 1, none⟩ = some (.int .i64 (k : Int)) := cell_of_row w p 1 _ _ _ hb
  have hf1 : w.frozen? ⟨p, 1, none⟩ = false := frozen_of_row w p 1 _ _ hb
  have HB := Lib.hid hb
  have HL := Lib.hid hlen
  clear hb hlen
  by_cases hlt : k < n
  · have hd : decide ((n : Int) ≤ (k : Int)) = false := by simp; omega
    go_enter Try.func29, Try.ntmps29
    go_wp2_with fail
    go_quiet (fail)
    go_wp2_with fail
    have hg : w.grownBy ((w.drewN nq).setCell ⟨p, 1, none⟩ (.int .i64 ((k : Int) + 1))) (some p) := grown_setCell (grown_drewN (World.grownBy.refl w _) nq) 1 _
    have hb2 : ((w.drewN nq).setCell ⟨p, 1, none⟩ (.int .i64 ((k : Int) + 1))).heap[p]? = some (.cells #[.slice A n c, .int .i64 ((k : Int) + 1)] 110 (0, 0)) :=
      heap_setCell_same (w.drewN nq) p 1 _ _ _ HB.out
    generalize (w.drewN nq).setCell ⟨p, 1, none⟩ (.int .i64 ((k : Int) + 1)) = w2 at *
    clear hc0 hc1 hf1
    have hR2 := hR.grown hg (fun hn ad e => by have := hA hn ad e; omega)
    have hc0 : w2.cell? ⟨p, 0, none⟩ = some (.slice A n c) := cell_of_row w2 p 0 _ _ _ hb2
    have hc1 : w2.cell? ⟨p, 1, none⟩ = some (.int .i64 ((k : Int) + 1)) := cell_of_row w2 p 1 _ _ _ hb2
    have HB2 := Lib.hid hb2
    clear hb2
    obtain ⟨ad, u, rfl, hu, hc⟩ := hR2.at_ hlt
    have hkl : k < l.length := by have := HL.out; omega
    rw [iv_get l k hkl] at hu
    injection hu with hu
    subst hu
    have hx := hI l[k] (List.getElem_mem hkl)
    have HD : Hid (l.drop k = l[k] :: l.drop (k + 1)) := Lib.hid (List.drop_eq_getElem_cons hkl)
    generalize l[k] = x at *
    have hi1 : (0 : Int) ≤ (k : Int) + 1 - 1 := by omega
    have hi2 : ((k : Int) + 1 - 1) < (n : Int) := by omega
    go_quiet ((go_at_call 26; exact Calls.quiet_of_left (mod_any x m _ hx hm)))
    go_wp2
    go_ret
    refine ⟨by rw [HD.out]; rfl, ⟨some ad, n, c, k + 1, l, HB2.out, hR2, hI, by omega, hn, by rw [HD.out]; rfl, hA⟩, grown_drewN hg _⟩
  · have hd : decide ((n : Int) ≤ (k : Int)) = true := by simp; omega
    go_enter Try.func29, Try.ntmps29
    go_wp2_with fail
    go_quiet (fail)
    go_wp2
    go_ret
    have h0 : l.drop k = [] := List.drop_eq_nil_of_le (by have := HL.out; omega)
    refine ⟨by rw [h0]; rfl, ⟨A, n, c, k, l, HB.out, hR, hI, by omega, hn, by rw [h0]; rfl, hA⟩, grown_drewN (World.grownBy.refl _ _) _⟩
end Go.Proofs.Ytabgmodllifgjaa
