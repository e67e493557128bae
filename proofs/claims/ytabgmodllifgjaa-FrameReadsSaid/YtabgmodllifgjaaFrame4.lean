/- Plain laws of frames, and the sanity check of chapter 07. No conditions. -/
import Derived.Test.YtabgmodllifgjaaFrame3
namespace Go.Proofs.Ytabgmodllifgjaa
open Go.RowKit
set_option maxRecDepth 100000
set_option linter.unusedVariables false

theorem chk_sealed (l : List UInt8) : chk (sealed l) = true := chk_append l
theorem take_left' {α : Type} {a b : List α} {n : Nat} (h : a.length = n) : (a ++ b).take n = a := by subst h; exact List.take_left
theorem drop_left' {α : Type} {a b : List α} {n : Nat} (h : a.length = n) : (a ++ b).drop n = b := by subst h; exact List.drop_left
/-- A frame is read back, whatever follows. -/
theorem decR_enc (k : UInt8) (p rest : List UInt8) (hp : p.length ≤ 4194304) : decR (encF k p ++ rest) = (k, p, p.length + 13, 0) := by
  have h9 : (sealed (headF k p.length)).length = 9 := by rw [sealed_len, headF_len]
  have hs := sealed_len p
  have e1 : (encF k p ++ rest).take 9 = sealed (headF k p.length) := by
    unfold encF; rw [List.append_assoc]; exact take_left' h9
  have e2 : (encF k p ++ rest).drop 9 = sealed p ++ rest := by
    unfold encF; rw [List.append_assoc]; exact drop_left' h9
  have e3 : ((encF k p ++ rest).drop 1).take 4 = le p.length 4 := by
    unfold encF sealed headF
    simp only [List.cons_append, List.drop_succ_cons, List.drop_zero, List.append_assoc]
    exact take_left' (le_length _ _)
  have hv : val (le p.length 4) = p.length := val_le 4 _ (by have : (256 : Nat) ^ 4 = 4294967296 := by decide
                                                             omega)
  have hlen : (encF k p ++ rest).length = p.length + 13 + rest.length := by rw [List.length_append, encF_len]
  have e4 : (sealed p ++ rest).take (p.length + 4) = sealed p := take_left' hs
  have e5 : (sealed p ++ rest).take p.length = p := by unfold sealed; rw [List.append_assoc]; exact take_left' rfl
  have e6 : (encF k p ++ rest).headD 0 = k := by simp [encF, sealed, headF]
  unfold decR
  rw [e1, e2, e3, hv, e4, e5, e6, chk_sealed, chk_sealed, hlen]
  rw [if_neg (by omega), if_neg (by simp), if_neg (by omega), if_neg (by omega), if_neg (by simp)]

/-- A proper beginning of a frame is truncated. -/
theorem decR_prefix (k : UInt8) (p : List UInt8) (hp : p.length ≤ 4194304) (m : Nat) (hm : m < p.length + 13) : decR ((encF k p).take m) = (0, [], 0, 4) := by
  have hlen : ((encF k p).take m).length = m := by rw [List.length_take, encF_len]; omega
  unfold decR
  rw [hlen]
  by_cases h9 : m < 9
  · rw [if_pos h9]
  · rw [if_neg h9]
    have h9' : (sealed (headF k p.length)).length = 9 := by rw [sealed_len, headF_len]
    have e1 : ((encF k p).take m).take 9 = sealed (headF k p.length) := by
      rw [List.take_take, Nat.min_eq_left (by omega)]
      exact take_left' h9'
    have e3 : (((encF k p).take m).drop 1).take 4 = le p.length 4 := by
      rw [List.drop_take, List.take_take, Nat.min_eq_left (by omega)]
      unfold encF sealed headF
      simp only [List.cons_append, List.drop_succ_cons, List.drop_zero, List.append_assoc]
      exact take_left' (le_length _ _)
    have hv : val (le p.length 4) = p.length := val_le 4 _ (by have : (256 : Nat) ^ 4 = 4294967296 := by decide
                                                               omega)
    rw [e1, e3, hv, chk_sealed, if_neg (by simp), if_neg (by omega), if_pos (by omega)]

theorem Own.two (w : World) (x y : UInt8) : Own (w.alloc (.cells #[.int .u8 x.toNat, .int .u8 y.toNat] 5)) w.heap.size (.slice (some ⟨w.heap.size, 0, none⟩) 2 2) [x, y] :=
  ⟨by simp [bv], .inr ⟨w.heap.size, 2, _, rfl, Nat.le_refl _, heap_alloc_new _ _, Nat.le_refl _, by unfold maxLen; omega, rfl, rfl⟩⟩

set_option maxHeartbeats 1000000 in
theorem known07_any (w : World) :
    Calls Try.prog 69 #[] w fun e w' => e = .returned (.bool true) ∧ Below w.heap.size w w' := by
  go_enter Try.func69, Try.ntmps69
  go_wp2_with fail
  have h12 : Rd (w.alloc (.cells #[.int .u8 1, .int .u8 2] 5)) 1 (some ⟨w.heap.size, 0, none⟩) 2 (bv [1, 2]) := Rd.of_own (Own.two w 1 2)
  refine (frameEncode_any 7 [1, 2] _ _ 2 _ h12 (by simp)).mono ?_
  rintro e w1 ⟨v1, rfl, how1, hb1⟩
  have hbb1 : Below w.heap.size w w1 := ((Below.refl _ _).alloc (Nat.le_refl _) _).trans (hb1.mono (by simp))
  obtain ⟨A1, c1, rfl, r1, hc1, _⟩ := how1.form
  have hf : (encF 7 [1, 2]).length = 15 := by rw [encF_len]; rfl
  have hdec : decR (encF 7 [1, 2]) = (7, [1, 2], 15, 0) := by
    have := decR_enc 7 [1, 2] [] (by simp)
    rwa [List.append_nil] at this
  generalize encF 7 [1, 2] = f at *
  rw [hf] at how1 r1 hc1 ⊢
  have HF := Lib.hid hf
  clear hf h12
  go_wp2_with (at_builtin; refine wpList_append_rd rfl (.tmp 12) (.tmp 13) rfl w1.heap.size _ [9] rfl (Own.one w1 9) A1 15 c1 f rfl (r1.alloc _) (by simp) (by simp) ?_; intro v2 w2 how2 hg2 hat2; obtain ⟨A2, c2, rfl, r2, hc2, _⟩ := how2.form)
  have hbb2 : Below w.heap.size w w2 := below_grown (hbb1.alloc hbb1.size _) (Own.one w1 9) hg2 hbb1.size (by have := hbb1.size; simp; omega)
  have hl2 : ([9] ++ f).length = 16 := by simp [HF.out]
  have hd1 : ([9] ++ f).drop 1 = f := rfl
  clear hat2 hg2
  have hdec2 : decR (([9] ++ f).drop 1) = (7, [1, 2], 15, 0) := hdec
  generalize [9] ++ f = f2 at *
  have hfd := frameDecode_any f2 A2 _ c2 1 w2 r2 hc2 (by omega) (by omega)
  rw [hdec2] at hfd
  have e16 : f.length + 1 = 16 := by rw [HF.out]
  rw [e16]
  rw [hl2] at how2 r2 hc2 hfd
  have HL2 := Lib.hid hl2
  clear hl2 hd1 hdec hdec2
  refine hfd.mono ?_
  rintro e w3 ⟨v3, rfl, hv3, hb3⟩
  obtain ⟨A3, c3, rfl, hc3, r3⟩ := hv3
  have e3 : decN 1 (7, [1, 2], 15, 0) = 16 := rfl
  rw [e3]
  have hbb3 := hbb2.trans (hb3.mono hbb2.size)
  clear hfd
  go_wp2_with fail
  have r3' : Rd ((w3.alloc (.cells #[.int .u8 7, .slice A3 2 c3] 89)).alloc (.cells #[.int .u8 1, .int .u8 2] 5)) 1 A3 2 (bv [1, 2]) := (r3.alloc _).alloc _
  have r4 : Rd ((w3.alloc (.cells #[.int .u8 7, .slice A3 2 c3] 89)).alloc (.cells #[.int .u8 1, .int .u8 2] 5)) 1 (some ⟨w3.heap.size + 1, 0, none⟩) 2 (bv [1, 2]) := by
    have := Rd.of_own (Own.two (w3.alloc (.cells #[.int .u8 7, .slice A3 2 c3] 89)) 1 2)
    simpa using this
  have hbb4 : Below w.heap.size w ((w3.alloc (.cells #[.int .u8 7, .slice A3 2 c3] 89)).alloc (.cells #[.int .u8 1, .int .u8 2] 5)) := (hbb3.alloc hbb3.size _).alloc (by have := hbb3.size; simp; omega) _
  refine (refSame_any [1, 2] [1, 2] _ _ 2 _ 2 _ _ r3' r4 (by simp [maxLen]) (by simp [maxLen])).mono ?_
  rintro e w5 ⟨rfl, d, rfl⟩
  have e5 : (([1, 2] : List UInt8) == [1, 2]) = true := by decide
  rw [e5]
  have hbb5 := below_drewN' hbb4 d
  go_wp2_with fail
  refine (frameSize_any 2 _ (by omega)).mono ?_
  rintro e w6 ⟨rfl, rfl⟩
  have e6 : sizeF 2 = 15 := rfl
  rw [e6]
  go_wp2_with fail
  go_ret
  exact ⟨rfl, hbb5⟩

set_option maxHeartbeats 1000000 in
theorem frameForms_walk (kind : UInt8) (l : List UInt8) (A : Option Addr) (c : Nat) (a : Int) (w : World) (h : Rd w 1 A l.length (bv l)) (hc : l.length ≤ c) (hr : c ≤ 140737488351232)
    (ha : -9223372036854775808 ≤ a ∧ a < 9223372036854775808) :
    Calls Try.prog 15 #[.int .u8 kind.toNat, .slice A l.length c, .int .i64 a] w fun e w' => e = .returned (.bool true) ∧ Below w.heap.size w w' := by
  have hm0 := modz_range a (show (1 : Int) ≤ 4194308 by omega)
  have hm := mod_any a 4194308
  have hq1 : ∀ z : Int, (sizeF z == sizeF z) = true := fun z => by simp
  go_enter Try.func15, Try.ntmps15
  by_cases hl : l.length ≤ 4194304
  · go_wp2_with fail
    refine (frameEncode_any kind l A _ c w h hl).mono ?_
    rintro e w1 ⟨v1, rfl, how1, hb1⟩
    have h1 := h.below hb1
    obtain ⟨A1, c1, rfl, r1, hc1, _⟩ := how1.form
    go_wp2_with fail
    refine (refFrameEncode_any kind l A _ c w1 h1 hl).mono ?_
    rintro e w2 ⟨v2, rfl, how2, hb2⟩
    have r12 := r1.below hb2
    obtain ⟨A2, c2, rfl, r2, hc2, _⟩ := how2.form
    have hbb2 := hb1.trans (hb2.mono hb1.size)
    have hfl : (encF kind l).length ≤ 4194317 := by rw [encF_len]; omega
    generalize encF kind l = f at *
    go_wp2_with fail
    refine (hm w2 ha (by omega)).mono ?_
    rintro e w3 ⟨rfl, rfl⟩
    generalize modz a 4194308 = z at *
    go_wp2_with fail
    refine (known07_any _).mono ?_
    rintro e w4 ⟨rfl, hb4⟩
    have r14 := r12.below hb4
    have r24 := r2.below hb4
    have hbb4 := hbb2.trans (hb4.mono hbb2.size)
    go_wp2_with fail
    refine (refSame_any f f _ _ _ _ _ _ _ r14 r24 (by unfold maxLen; omega) (by unfold maxLen; omega)).mono ?_
    rintro e w5 ⟨rfl, d, rfl⟩
    have hbb5 := below_drewN' hbb4 d
    have e5 : (f == f) = true := by simp
    rw [e5]
    go_wp2_with fail
    refine (frameSize_any a _ ha).mono ?_
    rintro e w6 ⟨rfl, rfl⟩
    go_wp2_with fail
    refine (refFrameSize_any a _ ha).mono ?_
    rintro e w6 ⟨rfl, rfl⟩
    go_wp2_with fail
    refine (frameSize_any z _ (by omega)).mono ?_
    rintro e w6 ⟨rfl, rfl⟩
    go_wp2_with fail
    refine (refFrameSize_any z _ (by omega)).mono ?_
    rintro e w6 ⟨rfl, rfl⟩
    go_wp2_with fail
    refine (frameSize_any 4194304 _ (by omega)).mono ?_
    rintro e w6 ⟨rfl, rfl⟩
    have e6 : sizeF 4194304 = 4194317 := rfl
    rw [e6]
    go_wp2_with fail
    go_ret
    exact ⟨rfl, hbb5⟩
  · go_wp2_with fail
    refine (frameEncode_big kind A _ c w (by omega) (by unfold maxLen; omega)).mono ?_
    rintro e w1 ⟨rfl, rfl⟩
    go_wp2_with fail
    refine (refFrameEncode_big kind A _ c w (by omega) (by unfold maxLen; omega)).mono ?_
    rintro e w2 ⟨rfl, rfl⟩
    go_wp2_with fail
    refine (hm w ha (by omega)).mono ?_
    rintro e w3 ⟨rfl, rfl⟩
    generalize modz a 4194308 = z at *
    go_wp2_with fail
    refine (known07_any _).mono ?_
    rintro e w4 ⟨rfl, hbb4⟩
    go_wp2_with fail
    refine (refSame_any [] [] none none 0 0 0 0 _ Rd.nil Rd.nil (by simp) (by simp)).mono ?_
    rintro e w5 ⟨rfl, d, rfl⟩
    have hbb5 := below_drewN' hbb4 d
    have e5 : (([] : List UInt8) == []) = true := by decide
    rw [e5]
    go_wp2_with fail
    refine (frameSize_any a _ ha).mono ?_
    rintro e w6 ⟨rfl, rfl⟩
    go_wp2_with fail
    refine (refFrameSize_any a _ ha).mono ?_
    rintro e w6 ⟨rfl, rfl⟩
    go_wp2_with fail
    refine (frameSize_any z _ (by omega)).mono ?_
    rintro e w6 ⟨rfl, rfl⟩
    go_wp2_with fail
    refine (refFrameSize_any z _ (by omega)).mono ?_
    rintro e w6 ⟨rfl, rfl⟩
    go_wp2_with fail
    refine (frameSize_any 4194304 _ (by omega)).mono ?_
    rintro e w6 ⟨rfl, rfl⟩
    have e6 : sizeF 4194304 = 4194317 := rfl
    rw [e6]
    go_wp2_with fail
    go_ret
    exact ⟨rfl, hbb5⟩

theorem frameForms_law (a0 : Int) (A1 : Option Addr) (n1 c1 : Nat) (z1 : List Int) (a2 : Int) (w : World) (w0 : (Lit.int .u8 a0).wf = true) (w1 : IsRow .u8 w A1 n1 c1 z1) (r1 : c1 * 1 ≤ 140737488351232) (w2 : (Lit.int .i64 a2).wf = true) :
    Calls Try.prog 15 #[.int .u8 a0, .slice A1 n1 c1, .int .i64 a2] w fun e w' => e = .returned (.bool true) ∧ Below w.heap.size w w' := by
  obtain ⟨k, rfl⟩ := u8_of w0
  obtain ⟨l, _, hc, h⟩ := w1.bytes
  have hn := h.len
  subst hn
  exact frameForms_walk k l A1 c1 a2 w h hc (by omega) (wf_i64 w2)
end Go.Proofs.Ytabgmodllifgjaa
