/- The walk of the law CrcForms. Conditions: those of the row. -/
import Derived.Test.YtabgmodllifgjaaSpoiled
namespace Go.Proofs.Ytabgmodllifgjaa
open Go.RowKit
set_option maxRecDepth 100000
set_option linter.unusedVariables false

theorem leb_succ (v k : Nat) : leb v (k + 1) = leb (v / 256) k := by
  unfold leb
  rw [Nat.div_div_eq_div_mul, show (256 : Nat) = 2 ^ 8 from rfl, ← Nat.pow_add, Nat.mul_add, Nat.mul_one, Nat.add_comm]
theorem le_cons (v n : Nat) : le v (n + 1) = UInt8.ofNat v :: le (v / 256) n := by
  unfold le
  rw [List.range_succ_eq_map, List.map_cons, List.map_map]
  have h0 : leb v 0 = UInt8.ofNat v := by simp [leb]
  rw [h0]
  congr 1
  apply List.map_congr_left
  intro k _
  exact leb_succ v k
theorem val_le (n : Nat) : ∀ v : Nat, v < 256 ^ n → val (le v n) = v := by
  induction n with
  | zero => intro v h; simp [le, val]; omega
  | succ n ih =>
    intro v h
    rw [le_cons]
    simp only [val]
    rw [ih (v / 256) (by rw [Nat.pow_succ] at h; omega), UInt8.toNat_ofNat']
    omega
theorem chk_append (l : List UInt8) : chk (l ++ le (Crc.crc 0 l) 4) = true := by
  have h1 : (le (Crc.crc 0 l) 4).length = 4 := le_length _ _
  have hl : (l ++ le (Crc.crc 0 l) 4).length - 4 = l.length := by rw [List.length_append, h1]; omega
  unfold chk
  rw [hl, List.drop_left, List.take_left, val_le 4 _ (Crc.crc_lt 0 l)]
  simp [h1]
theorem same_any {l m : List UInt8} (v u : Value) (w : World) (h : IsRd l v w) (h' : IsRd m u w) (hl : l.length ≤ maxLen) (hm : m.length ≤ maxLen) :
    Calls Try.prog 34 #[v, u] w fun e w' => e = .returned (.bool (l == m)) ∧ ∃ k, w' = w.drewN k := by
  obtain ⟨A, c, rfl, _, h⟩ := h
  obtain ⟨B, d, rfl, _, h'⟩ := h'
  exact refSame_any l m A B _ c _ d w h h' hl hm

set_option maxHeartbeats 1000000 in
theorem crcForms_walk (l : List UInt8) (A : Option Addr) (n c : Nat) (crc : Nat) (z : List Int) (B : Option Addr) (m d : Nat) (w : World) (h : Rd w 1 A n (bv l)) (hc : n ≤ c) (hr : c ≤ 140737488351232) (hcrc : crc < 4294967296)
    (hz : Rd w 1 B m (iv z)) (hI : Ints z) (hm : m ≤ 140737488351232) (hB : 0 < m → ∀ ad, B = some ad → ad.block < w.heap.size) :
    Calls Try.prog 6 #[.slice A n c, .int .u32 crc, .slice B m d] w fun e w' => e = .returned (.bool true) ∧ Below w.heap.size w w' := by
  have hn := h.len
  subst hn
  have hla : (l ++ le (Crc.crc 0 l) 4).length = l.length + 4 := by rw [List.length_append, le_length]
  have hck := chk_append l
  have hF1 := refAppend_any l A l.length c w h (by omega)
  have hF2 := fun w' (hb : Below w.heap.size w w') => crcAppend_any l A l.length c w' (h.below hb) (by omega)
  generalize l ++ le (Crc.crc 0 l) 4 = a at *
  have HLA := Lib.hid hla
  have hal : a.length ≤ 140737488351240 := by omega
  have HF2 := Lib.hid hF2
  have HF1 := Lib.hid hF1
  clear hla hF2 hF1
  go_enter Try.func6, Try.ntmps6
  go_wp2_with fail
  refine HF1.out.mono ?_
  rintro e w1 ⟨r1, rfl, how1, hbw1⟩
  go_wp2_with fail
  refine (new_any z B m d w1 (hz.below hbw1) hI hm (fun h0 ad e => Nat.lt_of_lt_of_le (hB h0 ad e) hbw1.size)).mono ?_
  rintro e w2 ⟨rfl, hT2, hb2⟩
  have hR1 := IsRd.of_own how1
  obtain ⟨A1, c1, rfl, hc1, hr1⟩ := hR1
  have hbw2 : Below w.heap.size w w2 := hbw1.trans (hb2.mono hbw1.size)
  have how2 := how1.below hb2
  go_wp2_with fail
  refine (spoiled_any w1.heap.size z a A1 _ c1 w2 hT2 (hr1.below hb2) (by omega)).mono ?_
  rintro e w3 ⟨v3, s, rfl, hs3, hsl, hg3⟩
  have hbw3 : Below w.heap.size w w3 := hbw2.trans ⟨hg3.os, hg3.tape, hg3.output, hg3.size, fun k hk => hg3.block k (Nat.lt_of_lt_of_le hk hbw2.size) (by intro e; injection e with e; have := hbw1.size; omega)⟩
  have how3 := how2.grown hg3 (by
    rcases e : (Value.slice A1 a.length c1).ownBlock with _ | g
    · exact .inl rfl
    · have := (how1.ownBlock g e).2
      exact .inr (by intro he; injection he with he; omega))
  have hra3 : Rd w3 1 A1 a.length (bv a) := by
    obtain ⟨A1', c1', e, hr, _⟩ := how3.form
    injection e with e1 _ e3
    subst e1 e3
    exact hr
  obtain ⟨A3, c3, rfl, hc3, hr3⟩ := hs3
  have h33 : Below w3.heap.size w3 w3 := Below.refl _ _
  have hsl' : s.length ≤ 140737488351300 := by omega
  have hmx : l.length ≤ maxLen := by unfold maxLen; omega
  have hrl : ∀ w', Below w3.heap.size w3 w' → Rd w' 1 A l.length (bv l) := fun w' hb => (h.below hbw3).below hb
  go_wp2_with fail
  refine (known_any _).mono ?_
  rintro e w4 ⟨rfl, hb4⟩
  have h34 : Below w3.heap.size w3 w4 := h33.trans (hb4.mono h33.size)
  go_wp2_with fail
  refine (update_any crc hcrc l A l.length c hmx _ (hrl _ h34)).mono ?_
  rintro e w5 ⟨rfl, hb5⟩
  have h35 : Below w3.heap.size w3 w5 := h34.trans (hb5.mono h34.size)
  go_wp2_with fail
  refine (refUpdate_any crc hcrc l A l.length c hmx _ (hrl _ h35)).mono ?_
  rintro e w6 ⟨rfl, rfl⟩
  go_wp2_with fail
  refine (sum_any l A l.length c _ (hrl _ h35) hmx).mono ?_
  rintro e w6 ⟨rfl, hb6⟩
  have h36 : Below w3.heap.size w3 w6 := h35.trans (hb6.mono h35.size)
  go_wp2_with fail
  refine (refSum_any l A l.length c _ (hrl _ h36) hmx).mono ?_
  rintro e w7 ⟨rfl, rfl⟩
  go_wp2_with fail
  refine (HF2.out _ (hbw3.trans (h36.mono hbw3.size))).mono ?_
  rintro e w7 ⟨r5, rfl, how5, hb7⟩
  have h37 : Below w3.heap.size w3 w7 := h36.trans (hb7.mono h36.size)
  go_wp2_with fail
  refine (same_any r5 (.slice A1 a.length c1) _ (IsRd.of_own how5) (IsRd.mk_ (hra3.below h37) hc1) (by unfold maxLen; omega) (by unfold maxLen; omega)).mono ?_
  rintro e w8 ⟨rfl, kd, rfl⟩
  have h38 : Below w3.heap.size w3 (w7.drewN kd) := below_drewN' h37 kd
  have hsm : (a == a) = true := by simp
  rw [hsm]
  generalize w7.drewN kd = w8 at *
  go_wp2_with fail
  refine (check_any l A l.length c _ (hrl _ h38) hc hmx).mono ?_
  rintro e w9 ⟨rfl, hb9⟩
  have h39 : Below w3.heap.size w3 w9 := h38.trans (hb9.mono h38.size)
  go_wp2_with fail
  refine (refCheck_any l A l.length c _ (hrl _ h39) hc (by omega)).mono ?_
  rintro e w10 ⟨rfl, hb10⟩
  have h310 : Below w3.heap.size w3 w10 := h39.trans (hb10.mono h39.size)
  go_wp2_with fail
  refine (check_any a A1 a.length c1 _ (hra3.below h310) hc1 (by unfold maxLen; omega)).mono ?_
  rintro e w11 ⟨rfl, hb11⟩
  have h311 : Below w3.heap.size w3 w11 := h310.trans (hb11.mono h310.size)
  go_wp2_with fail
  refine (check_any s A3 s.length c3 _ (hr3.below h311) hc3 (by unfold maxLen; omega)).mono ?_
  rintro e w12 ⟨rfl, hb12⟩
  have h312 : Below w3.heap.size w3 w12 := h311.trans (hb12.mono h311.size)
  go_wp2_with fail
  refine (refCheck_any s A3 s.length c3 _ (hr3.below h312) hc3 (by omega)).mono ?_
  rintro e w13 ⟨rfl, hb13⟩
  have h313 : Below w3.heap.size w3 w13 := h312.trans (hb13.mono h312.size)
  go_wp2_with fail
  go_ret
  exact ⟨rfl, hbw3.trans (h313.mono hbw3.size)⟩

theorem crcForms_law (A0 : Option Addr) (n0 c0 : Nat) (z0 : List Int) (a1 : Int) (A2 : Option Addr) (n2 c2 : Nat) (z2 : List Int) (w : World) (w0 : IsRow .u8 w A0 n0 c0 z0) (r0 : c0 * 1 ≤ 140737488351232) (w1 : (Lit.int .u32 a1).wf = true) (w2 : IsRow .i64 w A2 n2 c2 z2) (r2 : c2 * 8 ≤ 140737488351232) :
    Calls Try.prog 6 #[.slice A0 n0 c0, .int .u32 a1, .slice A2 n2 c2] w fun e w' => e = .returned (.bool true) ∧ Below w.heap.size w w' := by
  obtain ⟨l, _, hc, h⟩ := w0.bytes
  have h1 := wf_u32 w1
  obtain ⟨crc, rfl⟩ := Int.eq_ofNat_of_zero_le h1.1
  obtain ⟨z, hz1, hz2, hI, hz⟩ := w2.ints
  exact crcForms_walk l A0 n0 c0 crc z A2 n2 c2 w h hc (by omega) (by omega) hz hI (by omega) hz.lt
end Go.Proofs.Ytabgmodllifgjaa
