/- The law FrameBack. Conditions: slices of at most 2^20 places (the second form of the row). -/
import Derived.Test.YtabgmodllifgjaaFrame5
namespace Go.Proofs.Ytabgmodllifgjaa
open Go.RowKit
set_option maxRecDepth 100000
set_option linter.unusedVariables false

set_option maxHeartbeats 1000000 in
theorem frameBack_walk (kind : UInt8) (l x y : List UInt8) (A : Option Addr) (c : Nat) (B : Option Addr) (d : Nat) (C : Option Addr) (f0 : Nat) (w : World) (h : Rd w 1 A l.length (bv l)) (hc : l.length ≤ c) (hr : c ≤ 140737488351232)
    (hx : Rd w 1 B x.length (bv x)) (hxd : x.length ≤ d) (hy : Rd w 1 C y.length (bv y)) (hyf : y.length ≤ f0) (hsum : x.length + y.length + 4194400 ≤ 140737488351232) :
    Calls Try.prog 17 #[.int .u8 kind.toNat, .slice A l.length c, .slice B x.length d, .slice C y.length f0] w fun e w' => e = .returned (.bool true) ∧ Below w.heap.size w w' := by
  obtain ⟨p, hp4, hcase⟩ := min_at h
  have hlc : (l.length : Int) ≤ (c : Int) := by omega
  rcases hcase with ⟨hbig, hp⟩ | ⟨hbig, hp⟩
  all_goals
    go_enter Try.func17, Try.ntmps17
    go_wp2_with fail
    refine (frameEncode_any kind p A _ c w hp hp4).mono ?_
    rintro e w1 ⟨v1, rfl, how1, hb1⟩
    obtain ⟨A1, c1, rfl, r1, hc1, _⟩ := how1.form
    have hfl := encF_len kind p
    have hdec := decR_enc kind p y hp4
    have hx1 := hx.below hb1
    have hy1 := hy.below hb1
    have hp1 := hp.below hb1
    have HFL := Lib.hid hfl
    have HDC := Lib.hid hdec
    have hf14 : (encF kind p).length ≤ 4194317 := by omega
    clear hfl hdec
    generalize encF kind p = f at *
    go_wp2_with (at_builtin; first | (refine wpList_append_rd rfl (.tmp 26) (.tmp 27) rfl w1.heap.size _ [] rfl (Own.empty w1) B x.length d x rfl (hx1.alloc _) (by simp; omega) (by simp) ?_; intro v2 w2 how2 hg2 hat2; have hb2 : Below w1.heap.size w1 w2 := below_grown ((Below.refl _ _).alloc (Nat.le_refl _) _) (Own.empty w1) hg2 (Nat.le_refl _) (by simp)) | (refine wpList_append_rd rfl (.tmp 28) (.tmp 29) rfl w1.heap.size _ ([] ++ x) rfl how2 A1 f.length c1 f rfl (r1.below hb2) (by simp; omega) hb2.size ?_; intro v3 w3 how3 hg3 hat3; have hb3 := below_grown hb2 how2 hg3 (Nat.le_refl _) hb2.size) | (refine wpList_append_rd rfl (.tmp 30) (.tmp 31) rfl w1.heap.size _ ([] ++ x ++ f) rfl how3 C y.length f0 y rfl (hy1.below hb3) (by simp; omega) hb3.size ?_; intro v4 w4 how4 hg4 hat4; have hb4 := below_grown hb3 how3 hg4 (Nat.le_refl _) hb3.size; obtain ⟨A4, c4, rfl, r4, hc4, _⟩ := how4.form))
    have e4 : [] ++ x ++ f ++ y = x ++ (f ++ y) := by simp
    have hl4 : x.length + (f.length + y.length) = ([] ++ x ++ f ++ y).length := by simp
    have hd4 : (x ++ (f ++ y)).drop x.length = f ++ y := drop_left' rfl
    have hbb4 : Below w.heap.size w w4 := hb1.trans (hb4.mono hb1.size)
    have hfd := frameDecode_any (x ++ (f ++ y)) A4 (x.length + (f.length + y.length)) c4 x.length w4 (by rw [hl4, ← e4]; exact r4) (by rw [hl4]; exact hc4) (by simp; omega) (by simp)
    rw [hd4, HDC.out] at hfd
    have hcl : p.length + 13 = f.length := HFL.out.symm
    have hn1 : decN x.length (kind, p, p.length + 13, 0) = (x.length : Int) + (f.length : Int) := by simp [decN]; omega
    rw [hn1] at hfd
    have hsz : ∀ z : Int, z = (p.length : Int) → sizeF z = (f.length : Int) := fun z hz => by unfold sizeF; rw [if_neg (by omega)]; omega
    have hpn := hp.len
    have HPN := Lib.hid hpn
    have HSZ := Lib.hid hsz
    have hp4' := hp1.below hb4
    clear hn1 hcl hpn hsz hd4 hl4 e4 r4 how4 how3 how2 hg2 hg3 hg4 hat2 hat3 hat4
    refine hfd.mono ?_
    rintro e w5 ⟨v5, rfl, ⟨A5, c5, rfl, hc5, r5⟩, hb5⟩
    have hbb5 := hbb4.trans (hb5.mono hbb4.size)
    have hp5 := hp4'.below hb5
    clear hfd
    have hwx : IntKind.i64.wrap ((x.length : Int) + (f.length : Int)) = (x.length : Int) + (f.length : Int) := IntWalk.i64_in _ (by omega)
    go_wp2_with fail
    refine (known07_any _).mono ?_
    rintro e w6 ⟨rfl, hb6⟩
    have hal : Below w5.heap.size w5 (w5.alloc (.cells #[.int .u8 kind.toNat, .slice A5 p.length c5] 89)) := (Below.refl _ _).alloc (Nat.le_refl _) _
    have hg6 := (hb6.block w5.heap.size (by simp)).trans (heap_alloc_new w5 (.cells #[.int .u8 kind.toNat, .slice A5 p.length c5] 89))
    have hb56 := hal.trans (hb6.mono hal.size)
    have hp6 := hp5.below hb56
    have r6 := r5.below hb56
    have hbb6 := hbb5.trans (hb56.mono hbb5.size)
    have hc60 : w6.cell? ⟨w5.heap.size, 0, none⟩ = some (.int .u8 kind.toNat) := by rw [cell_of_row _ _ _ _ _ _ hg6]; rfl
    have hc61 : w6.cell? ⟨w5.heap.size, 1, none⟩ = some (.slice A5 p.length c5) := by rw [cell_of_row _ _ _ _ _ _ hg6]; rfl
    go_wp2_with fail
    refine (refSame_any p p A5 A _ c5 _ c w6 r6 hp6 (by unfold maxLen; omega) (by unfold maxLen; omega)).mono ?_
    rintro e w7 ⟨rfl, dd, rfl⟩
    have epp : (p == p) = true := by simp
    rw [epp]
    go_wp2_with fail
    refine (frameSize_any _ _ (by omega)).mono ?_
    rintro e w8 ⟨rfl, rfl⟩
    rw [HSZ.out _ (by have := HPN.out; omega)]
    go_wp2_with fail
    go_ret
    exact ⟨rfl, below_drewN' hbb6 dd⟩
theorem frameBack_law (a0 : Int) (A1 : Option Addr) (n1 c1 : Nat) (z1 : List Int) (A2 : Option Addr) (n2 c2 : Nat) (z2 : List Int) (A3 : Option Addr) (n3 c3 : Nat) (z3 : List Int) (w : World) (w0 : (Lit.int .u8 a0).wf = true) (w1 : IsRow .u8 w A1 n1 c1 z1) (r1 : c1 ≤ 1048576)
    (w2 : IsRow .u8 w A2 n2 c2 z2) (r2 : c2 ≤ 1048576) (w3 : IsRow .u8 w A3 n3 c3 z3) (r3 : c3 ≤ 1048576) :
    Calls Try.prog 17 #[.int .u8 a0, .slice A1 n1 c1, .slice A2 n2 c2, .slice A3 n3 c3] w fun e w' => e = .returned (.bool true) ∧ Below w.heap.size w w' := by
  obtain ⟨k, rfl⟩ := u8_of w0
  obtain ⟨l, _, hc, h⟩ := w1.bytes
  obtain ⟨x, _, hc2, hx⟩ := w2.bytes
  obtain ⟨y, _, hc3, hy⟩ := w3.bytes
  have hn := h.len
  have hn2 := hx.len
  have hn3 := hy.len
  subst hn hn2 hn3
  exact frameBack_walk k l x y A1 c1 A2 c2 A3 c3 w h hc (by omega) hx hc2 hy hc3 (by omega)
end Go.Proofs.Ytabgmodllifgjaa
