/- The walk of (*Tape).Spoiled: it returns some bytes, at most one more than it got, and changes the tape alone. Conditions: a length below 2^47. -/
import Derived.Test.YtabgmodllifgjaaTape
import Derived.StillTailTactics
import Derived.Deep.RegionWith
namespace Go.Proofs.Ytabgmodllifgjaa
open Go.RowKit
set_option maxRecDepth 100000
set_option linter.unusedVariables false

theorem TapeAt.lt {w : World} {p : Nat} {r : List Int} (h : TapeAt w p r) : p < w.heap.size := by
  obtain ⟨A, n, c, k, l, hb, _⟩ := h
  rcases Nat.lt_or_ge p w.heap.size with h1 | h1
  · exact h1
  · rw [Array.getElem?_eq_none h1] at hb; cases hb
theorem TapeAt.below {w w' : World} {p : Nat} {r : List Int} (h : TapeAt w p r) (hb : Below w.heap.size w w') : TapeAt w' p r := by
  have hl := h.lt
  obtain ⟨A, n, c, k, l, h1, h2, h3⟩ := h
  exact ⟨A, n, c, k, l, (hb.block p hl).trans h1, h2.below hb, h3⟩
theorem TapeAt.ints {w : World} {p : Nat} {r : List Int} (h : TapeAt w p r) : Ints r := by
  obtain ⟨A, n, c, k, l, _, _, hI, _, _, rfl, _⟩ := h
  exact fun x hx => hI x (List.mem_of_mem_drop hx)
/-- Kept where another block alone turns. -/
theorem TapeAt.grown {w w' : World} {p : Nat} {r : List Int} {row : Option Nat} (h : TapeAt w p r) (hg : w.grownBy w' row) (hr : ∀ g, row = some g → p < g) : TapeAt w' p r := by
  have hl := h.lt
  obtain ⟨A, n, c, k, l, h1, h2, hI, hk, hn, hr', hA⟩ := h
  refine ⟨A, n, c, k, l, (hg.block p hl (fun e => by have := hr p e.symm; omega)).trans h1, ⟨h2.1, fun hn => ?_⟩, hI, hk, hn, hr', hA⟩
  obtain ⟨ad, e, hc⟩ := h2.2 hn
  refine ⟨ad, e, fun j u hu => ?_⟩
  have h3 := hc j u hu
  have hb := block_lt_of_cell h3
  rw [add_block] at hb
  exact (World.cell?_of_block (hg.block _ (by rw [add_block]; exact hb) (by rw [add_block]; intro he; have := hr _ he.symm; have := hA hn ad e; omega))).trans h3
theorem hdz_range (r : List Int) {n : Int} (h : 1 ≤ n) : 0 ≤ hdz r n ∧ hdz r n < n := by
  cases r with
  | nil => simp [hdz]; omega
  | cons x r => exact modz_range x h
theorem hdz_zero (r : List Int) : hdz r 0 = 0 := by
  cases r with
  | nil => rfl
  | cons x r => simp [hdz, modz]
theorem byte_of_bits (op : BinOp) (a b : Int) : ∃ y : UInt8, bits op .u8 a b = (y.toNat : Int) := by
  have : ∃ n : Int, bits op .u8 a b = IntKind.u8.wrap n := by unfold bits; exact ⟨_, rfl⟩
  obtain ⟨n, hn⟩ := this
  rw [hn, IntKind.wrap_u8]
  refine ⟨UInt8.ofNat (n % 256).toNat, ?_⟩
  rw [UInt8.toNat_ofNat']
  have := Int.emod_nonneg n (show (256 : Int) ≠ 0 by omega)
  have := Int.emod_lt_of_pos n (show (0 : Int) < 256 by omega)
  omega
/-- The first cell's block of a slice of the call's own that is not empty. -/
theorem Own.head {w : World} {base c n : Nat} {A : Option Addr} {l : List UInt8} (h : Own w base (.slice A n c) l) (h0 : 0 < l.length) : ∃ g, A = some ⟨g, 0, none⟩ ∧ base ≤ g ∧ n = l.length := by
  rcases h.2 with ⟨e, h1⟩ | ⟨g, cap, cur, e, h1, h2, h3, h4, h5, h6⟩
  · omega
  · injection e with e1 e2 e3
    exact ⟨g, e1, h1, e2⟩
theorem Own.byteAt {w : World} {base c n g : Nat} {l : List UInt8} (h : Own w base (.slice (some ⟨g, 0, none⟩) n c) l) (k : Nat) (hk : k < l.length) :
    w.cell? ⟨g, k, none⟩ = some (.int .u8 (l[k].toNat : Int)) ∧ w.frozen? ⟨g, k, none⟩ = false := by
  have e : n = l.length := by
    obtain ⟨A, c', e, _⟩ := h.form
    injection e
  subst e
  exact ⟨by rw [World.ownsRow.cellAt h k (by omega)]; exact bv_get l k hk, World.ownsRow.frozenAt h k⟩
theorem Own.store {w : World} {base c n g : Nat} {l : List UInt8} (h : Own w base (.slice (some ⟨g, 0, none⟩) n c) l) (k : Nat) (y : UInt8) :
    Own (w.setCell ⟨g, k, none⟩ (.int .u8 (y.toNat : Int))) base (.slice (some ⟨g, 0, none⟩) n c) (l.set k y) := by
  have e : n = l.length := by
    obtain ⟨A, c', e, _⟩ := h.form
    injection e
  subst e
  have h1 := World.ownsRow.stored h k (.int .u8 (y.toNat : Int))
  unfold Own
  rw [List.length_set]
  have : bv (l.set k y) = (bv l).set k (.int .u8 (y.toNat : Int)) := by simp [bv, List.map_set]
  rw [this]
  exact h1.1
theorem Own.tape {w w' : World} {base p : Nat} {v : Value} {l : List UInt8} (h : Own w base v l) (hg : w.grownBy w' (some p)) (hp : p < base) : Own w' base v l :=
  h.grown hg (by
    rcases e : v.ownBlock with _ | g
    · exact .inl rfl
    · have := (h.ownBlock g e).1
      exact .inr (by intro he; injection he with he; omega))
theorem grown_trans' {a b c : World} {p : Nat} (h : a.grownBy b (some p)) (k : b.grownBy c (some p)) : a.grownBy c (some p) := h.trans k

/-- Below B nothing has turned but block p. -/
structure KeepTo (B p : Nat) (w w' : World) : Prop where
  os : w'.os = w.os
  tape : w'.tape = w.tape
  output : w'.output = w.output
  size : w.heap.size ≤ w'.heap.size
  block : ∀ k, k < B → k ≠ p → w'.heap[k]? = w.heap[k]?
section
variable {B p : Nat} {a w w' : World}
theorem KeepTo.refl (w : World) : KeepTo B p w w := ⟨rfl, rfl, rfl, Nat.le_refl _, fun _ _ _ => rfl⟩
theorem KeepTo.trans (h : KeepTo B p a w) (k : KeepTo B p w w') : KeepTo B p a w' :=
  ⟨k.os.trans h.os, k.tape.trans h.tape, k.output.trans h.output, Nat.le_trans h.size k.size, fun i h1 h2 => (k.block i h1 h2).trans (h.block i h1 h2)⟩
theorem KeepTo.below (h : KeepTo B p a w) (hb : Below B w w') : KeepTo B p a w' := h.trans ⟨hb.os, hb.tape, hb.output, hb.size, fun k hk _ => hb.block k hk⟩
theorem KeepTo.alloc (h : KeepTo B p a w) (o : Obj) (hB : B ≤ w.heap.size) : KeepTo B p a (w.alloc o) := h.below ((Below.refl _ _).alloc hB o)
theorem KeepTo.setCell (h : KeepTo B p a w) (q : Addr) (u : Value) (hB : B ≤ q.block) : KeepTo B p a (w.setCell q u) := h.below ((Below.refl _ _).setCell hB u)
theorem KeepTo.drew (h : KeepTo B p a w) : KeepTo B p a w.drew := h.below (Below.refl _ _).drew
theorem KeepTo.drewN (h : KeepTo B p a w) (n : Nat) : KeepTo B p a (w.drewN n) := h.below (below_drewN' (Below.refl _ _) n)
theorem KeepTo.tapeStep (h : KeepTo B p a w) (hg : w.grownBy w' (some p)) (hB : B ≤ w.heap.size) : KeepTo B p a w' :=
  h.trans ⟨hg.os, hg.tape, hg.output, hg.size, fun k hk hne => hg.block k (by omega) (by intro e; injection e with e; omega)⟩
theorem KeepTo.grown {base : Nat} {v : Value} {l : List UInt8} (h : KeepTo B p a w) (hown : Own w base v l) (hg : w.grownBy w' v.ownBlock) (h1 : B ≤ base) (h2 : B ≤ w.heap.size) : KeepTo B p a w' :=
  h.below (below_grown (Below.refl _ _) hown hg h1 h2)
theorem KeepTo.grownBy (h : KeepTo a.heap.size p a w) : a.grownBy w (some p) := ⟨h.os, h.tape, h.output, h.size, fun k hk hne => h.block k hk (fun e => hne (by rw [e]))⟩
end

theorem IsRd.mk_ {l : List UInt8} {A : Option Addr} {n c : Nat} {w : World} (h : Rd w 1 A n (bv l)) (hc : n ≤ c) : IsRd l (.slice A n c) w := by
  have hn := h.len
  subst hn
  exact ⟨A, c, rfl, hc, h⟩
/-- A beginning of a slice of the call's own is of the call's own. -/
theorem Own.take {w : World} {base c : Nat} {A : Option Addr} {l : List UInt8} (h : Own w base (.slice A l.length c) l) (k : Nat) (hk : k ≤ l.length) (hA : A ≠ none) : Own w base (.slice A k c) (l.take k) := by
  rcases h.2 with ⟨e, h0⟩ | ⟨g, cap, cur, e, h1, h2, h3, h4, h5, h6⟩
  · injection e with e1; exact absurd e1 hA
  · have e' := e
    injection e with e1 _ e3
    subst e1 e3
    have hkl : (l.take k).length = k := by rw [List.length_take]; omega
    unfold Own
    rw [hkl]
    refine ⟨by rw [bv_len, hkl]; omega, .inr ⟨g, c, cur, rfl, h1, h2, by omega, h4, h5, ?_⟩⟩
    have h7 := congrArg (List.take k) h6
    rw [List.take_take, Nat.min_eq_left (by omega)] at h7
    rw [Nat.mul_one, h7, bv_take]

def Some1 (w : World) (p m : Nat) (e : Ending) (w' : World) : Prop := ∃ v l', e = .returned v ∧ IsRd l' v w' ∧ l'.length ≤ m ∧ w.grownBy w' (some p)

set_option maxHeartbeats 1000000 in
theorem spoiled_any (p : Nat) (r : List Int) (l : List UInt8) (A : Option Addr) (n c : Nat) (w : World) (hT : TapeAt w p r) (h : Rd w 1 A n (bv l)) (hl : l.length ≤ 140737488351300) :
    Calls Try.prog 31 #[.pointer (some ⟨p, 0, none⟩), .slice A n c] w (Some1 w p (l.length + 1)) := by
  have hn := h.len
  subst hn
  have hp := hT.lt
  go_enter Try.func31, Try.ntmps31
  go_wp2_with (at_builtin; refine wpList_append_rd rfl (.tmp 6) (.tmp 7) rfl w.heap.size _ [] rfl (Own.empty w) A l.length c l rfl (h.alloc _) (by simp; omega) (by simp) ?_; intro v1 w1 how1 hg1 hat1; obtain ⟨A1, c1, rfl, hR1, hc1, hm1⟩ := how1.form)
  have hb1 : Below w.heap.size w w1 := below_grown ((Below.refl _ _).alloc (Nat.le_refl _) _) (Own.empty w) hg1 (Nat.le_refl _) (by simp)
  have hT1 := hT.below hb1
  simp only [List.nil_append] at how1 hR1 hc1
  clear hg1 hat1
  have hB1 := Lib.hid hb1
  clear hb1
  go_wp2_with fail
  refine (next_any p r _ (by omega) _ hT1).mono ?_
  rintro e w2 ⟨rfl, hT2, hg2⟩
  have how2 := how1.tape hg2 hp
  have hat0 : (l.length : Int) = 0 → hdz r (l.length : Int) = 0 := fun e => by rw [e]; exact hdz_zero r
  have hat1 : 0 < l.length → 0 ≤ hdz r (l.length : Int) ∧ hdz r (l.length : Int) < l.length := fun e => hdz_range r (by omega)
  have HA0 := Lib.hid hat0
  have HA1 := Lib.hid hat1
  clear hat0 hat1
  generalize hdz r (l.length : Int) = t at *
  go_wp2_with fail
  refine (next_any p r.tail 6 (by omega) _ hT2).mono ?_
  rintro e w3 ⟨rfl, hT3, hg3⟩
  have how3 := how2.tape hg3 hp
  have hs := hdz_range r.tail (show (1 : Int) ≤ 6 by omega)
  generalize hdz r.tail 6 = s at *
  have hg13 : w1.grownBy w3 (some p) := hg2.trans hg3
  have hsz3 := Nat.le_trans hB1.out.size hg13.size
  have HK : KeepTo w.heap.size p w w3 := ((((KeepTo.refl w).below hB1.out).tapeStep hg2 hB1.out.size).tapeStep hg3 (Nat.le_trans hB1.out.size hg2.size))
  have hfin : ∀ (w4 : World) (v : Value) (l' : List UInt8), KeepTo w.heap.size p w3 w4 → IsRd l' v w4 → l'.length ≤ l.length + 1 → Some1 w p (l.length + 1) (.returned v) w4 := fun w4 v l' hg hr hl =>
    ⟨v, l', rfl, hr, hl, (HK.trans hg).grownBy⟩
  have HF := Lib.hid hfin
  clear hfin
  obtain ⟨A3, c3, e3, hR3, hc3, _⟩ := how3.form
  injection e3 with e31 _ e33
  subst e31 e33
  rcases (show s = 0 ∨ s = 1 ∨ s = 2 ∨ (s ≠ 0 ∧ s ≠ 1 ∧ s ≠ 2) by omega) with rfl | rfl | rfl | ⟨s0, s1, s2⟩
  · go_wp2_with fail
    refine (next_any p r.tail.tail _ (by omega) _ hT3).mono ?_
    rintro e w4 ⟨rfl, hT4, hg4⟩
    have hk := hdz_range r.tail.tail (show (1 : Int) ≤ (l.length : Int) + 1 by omega)
    obtain ⟨k, hkk⟩ := Int.eq_ofNat_of_zero_le hk.1
    rw [hkk] at hk ⊢
    have how4 := how3.tape hg4 hp
    obtain ⟨A4, c4, e4, hR4, hc4, _⟩ := how4.form
    injection e4 with e41 _ e43
    subst e41 e43
    go_wp2
    go_ret
    exact HF.out w4 _ (l.take k) ((KeepTo.refl _).tapeStep hg4 hsz3) (IsRd.mk_ (hR4.pre k (by omega)) (by omega)) (by rw [List.length_take]; omega)
  · go_wp2_with fail
    refine (next_any p r.tail.tail _ (by omega) _ hT3).mono ?_
    rintro e w4 ⟨rfl, hT4, hg4⟩
    have hx := hdz_range r.tail.tail (show (1 : Int) ≤ 256 by omega)
    generalize hdz r.tail.tail 256 = x at *
    have how4 := how3.tape hg4 hp
    go_wp2_with (at_builtin; refine wpList_append_rd rfl (.tmp 39) (.tmp 43) rfl w.heap.size _ l rfl (how4.alloc _) _ 1 1 _ rfl (Rd.one w4 _ (by omega) (by omega)) (by omega) (by have := hg4.size; simp; omega) ?_; intro v5 w5 how5 hg5 hat5)
    go_ret
    have hsz4 := hg4.size
    exact HF.out w5 _ (l ++ [UInt8.ofNat x.toNat]) ((((KeepTo.refl _).tapeStep hg4 hsz3).alloc _ (by omega)).grown (how4.alloc _) hg5 (Nat.le_refl _) (by simp; omega)) (IsRd.of_own how5) (by simp)
  · by_cases h0 : 0 < l.length
    · have h0' : (0 : Int) < (l.length : Int) := by omega
      obtain ⟨ht0, htl⟩ := HA1.out h0
      obtain ⟨k, rfl⟩ := Int.eq_ofNat_of_zero_le ht0
      have hA1 : A1 ≠ none := by rintro rfl; obtain ⟨ad, e, _⟩ := hR3.2 h0; cases e
      have ht := how3.take k (by omega) hA1
      have hnew : Rd w3 1 (if c1 = k + 1 then A1 else Option.map (fun x => x.add (k + 1)) A1) (l.length - (k + 1)) (bv (l.drop (k + 1))) := hR3.sufIf (k + 1) c1 (by omega) hc3
      have hk1 : ((k : Int) + 1) ≤ (l.length : Int) := by omega
      have hk2 : (0 : Int) ≤ (k : Int) + 1 := by omega
      have hk3 : IntKind.i64.wrap ((k : Int) + 1) = (k : Int) + 1 := IntWalk.i64_in _ (by omega)
      have hk4 : ((k : Int) + 1).toNat = k + 1 := by omega
      have hk5 : (k : Int) ≤ (c1 : Int) := by omega
      have hk6 : k ≤ c1 := by omega
      have hk7 : k + 1 ≤ l.length := by omega
      have hk8 : k < l.length := by omega
      have hk9 : ¬ c1 = k := by omega
      go_wp2_with fail
      go_still_tail 7, (by kernel_rfl)
      change wpList _ _ _ _ _ w3.drew
      have ht' : Own w3.drew w.heap.size (.slice A1 k c1) (l.take k) := ht
      have hnew' : Rd w3.drew 1 (if c1 = k + 1 then A1 else Option.map (fun x => x.add (k + 1)) A1) (l.length - (k + 1)) (bv (l.drop (k + 1))) := hnew
      refine wpList_append_rd rfl (.tmp 52) (.tmp 56) rfl w.heap.size _ (l.take k) rfl ht' _ (l.length - (k + 1)) _ (l.drop (k + 1)) rfl hnew' (by rw [List.length_take]; omega) hsz3 ?_
      intro v5 w5 how5 hg5 _
      have hend : Some1 w p (l.length + 1) (.returned v5) w5 := HF.out w5 _ _ (((KeepTo.refl w3).drew).grown ht' hg5 (Nat.le_refl _) hsz3) (IsRd.of_own how5) (by rw [List.length_append, List.length_take, List.length_drop]; omega)
      have HE := Lib.hid hend
      clear hend
      go_wp2
      all_goals (go_ret; exact HE.out)
    · have h0' : ¬ (0 : Int) < (l.length : Int) := by omega
      go_wp2
      go_ret
      exact HF.out w3 _ l (KeepTo.refl _) (IsRd.mk_ hR3 hc3) (by omega)
  · by_cases h0 : 0 < l.length
    · have h0' : (0 : Int) < (l.length : Int) := by omega
      obtain ⟨ht0, htl⟩ := HA1.out h0
      obtain ⟨k, rfl⟩ := Int.eq_ofNat_of_zero_le ht0
      obtain ⟨g, rfl, hbg, _⟩ := how3.head h0
      have hkl : k < l.length := by omega
      obtain ⟨hc, hf⟩ := how3.byteAt k hkl
      go_wp2_with fail
      go_region_with (go_at_call 29; refine (next_any p r.tail.tail 8 (by omega) w3.drew hT3).mono ?_; rintro e w4 ⟨rfl, hT4, hg4⟩; have hx := hdz_range r.tail.tail (show (1 : Int) ≤ 8 by omega); have how4 := Own.tape (w := w3.drew) how3 hg4 hp; have hc4 := (how4.byteAt k hkl).1; have hf4 := (how4.byteAt k hkl).2)
      all_goals
        have hend : ∀ op a b, Some1 w p (l.length + 1) (.returned (.slice (some ⟨g, 0, none⟩) l.length c1)) (w4.setCell ⟨g, k, none⟩ (.int .u8 (bits op .u8 a b))) := fun op a b => by
          obtain ⟨y, hy⟩ := byte_of_bits op a b
          rw [hy]
          exact HF.out _ _ (l.set k y) ((((KeepTo.refl w3).drew).tapeStep hg4 hsz3).setCell _ _ hbg) (IsRd.of_own (how4.store k y)) (by rw [List.length_set]; omega)
        have HE := Lib.hid hend
        clear hend
        go_wp2
        go_ret
        exact HE.out _ _ _
    · have h0' : ¬ (0 : Int) < (l.length : Int) := by omega
      go_wp2
      go_ret
      exact HF.out w3 _ l (KeepTo.refl _) (IsRd.mk_ hR3 hc3) (by omega)
end Go.Proofs.Ytabgmodllifgjaa
