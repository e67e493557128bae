/- The law FrameNotices. Conditions: slices of at most 2^20 places (the second form of the row). -/
import Derived.Test.YtabgmodllifgjaaFrame6
import Derived.Test.YtabgmodllifgjaaCrcLaw4
namespace Go.Proofs.Ytabgmodllifgjaa
open Go.RowKit
set_option maxRecDepth 100000
set_option linter.unusedVariables false

theorem val_inj : ∀ (a b : List UInt8), a.length = b.length → val a = val b → a = b
  | [], [], _, _ => rfl
  | [], _ :: _, h, _ => by simp at h
  | _ :: _, [], h, _ => by simp at h
  | x :: a, y :: b, h, hv => by
    have hx := x.toNat_lt
    have hy := y.toNat_lt
    simp only [val] at hv
    have h1 : x.toNat = y.toNat := by omega
    have h2 : val a = val b := by omega
    rw [UInt8.toNat_inj.1 h1, val_inj a b (by simpa using h) h2]
theorem val_take (l : List UInt8) (k : Nat) (hk : k ≤ l.length) : val (l.take k) = val l % 2 ^ (8 * k) := by
  have h := val_append (l.take k) (l.drop k)
  rw [List.take_append_drop] at h
  have hl : (l.take k).length = k := by rw [List.length_take]; omega
  have hlt := val_lt (l.take k)
  rw [hl, show (256 : Nat) ^ k = 2 ^ (8 * k) by rw [Nat.pow_mul]] at h hlt
  rw [h, Nat.add_mul_mod_self_left, Nat.mod_eq_of_lt hlt]
theorem val_drop (l : List UInt8) (k : Nat) (hk : k ≤ l.length) : val (l.drop k) = val l / 2 ^ (8 * k) := by
  have h := val_append (l.take k) (l.drop k)
  rw [List.take_append_drop] at h
  have hl : (l.take k).length = k := by rw [List.length_take]; omega
  have hlt := val_lt (l.take k)
  rw [hl, show (256 : Nat) ^ k = 2 ^ (8 * k) by rw [Nat.pow_mul]] at h hlt
  rw [h, Nat.add_mul_div_left _ _ (Nat.two_pow_pos _), Nat.div_eq_of_lt hlt, Nat.zero_add]

/-- A burst in a frame: the checksums notice it. -/
theorem decR_burst (kd : UInt8) (p behind f' : List UInt8) (hp : p.length ≤ 4194304) (at_ P k : Nat) (hl : f'.length = p.length + 13) (hv : val f' = val (encF kd p) ^^^ (2 ^ at_ * P)) (hP : P < 2 ^ k) (hk : k ≤ 32) (hak : at_ + k ≤ 8 * (p.length + 13)) :
    (decR (f' ++ behind)).2.2.2 = if P = 0 then 0 else 6 := by
  have hfl := encF_len kd p
  have h9 : (sealed (headF kd p.length)).length = 9 := by rw [sealed_len, headF_len]
  have hs := sealed_len p
  have ef1 : (encF kd p).take 9 = sealed (headF kd p.length) := take_left' h9
  have ef2 : (encF kd p).drop 9 = sealed p := drop_left' h9
  by_cases hP0 : P = 0
  · rw [if_pos hP0]
    have : f' = encF kd p := val_inj _ _ (by omega) (by rw [hv, hP0]; simp)
    rw [this, decR_enc kd p behind hp]
  · rw [if_neg hP0]
    have e1 : (f' ++ behind).take 9 = f'.take 9 := by rw [List.take_append_of_le_length (by omega)]
    have v1 : val (f'.take 9) = val (sealed (headF kd p.length)) ^^^ (2 ^ at_ * P % 2 ^ 72) := by
      rw [val_take f' 9 (by omega), hv, Nat.xor_mod_two_pow, ← ef1, val_take _ 9 (by omega)]
    have v2 : val (f'.drop 9) = val (sealed p) ^^^ (2 ^ at_ * P / 2 ^ 72) := by
      rw [val_drop f' 9 (by omega), hv, Nat.xor_div_two_pow, ← ef2, val_drop _ 9 (by omega)]
    have l1 : (f'.take 9).length = 9 := by rw [List.length_take]; omega
    have l2 : (f'.drop 9).length = p.length + 4 := by rw [List.length_drop]; omega
    have hlen : (f' ++ behind).length = p.length + 13 + behind.length := by rw [List.length_append, hl]
    by_cases hD : 2 ^ at_ * P % 2 ^ 72 = 0
    · -- the head is whole
      have eh : f'.take 9 = sealed (headF kd p.length) := val_inj _ _ (by rw [l1, h9]) (by rw [v1, hD]; simp)
      have eq : ((f' ++ behind).drop 1).take 4 = le p.length 4 := by
        have h1 : ((f' ++ behind).drop 1).take 4 = (((f' ++ behind).take 9).drop 1).take 4 := by rw [List.drop_take, List.take_take]; rfl
        rw [h1, e1, eh]
        unfold sealed headF
        simp only [List.cons_append, List.drop_succ_cons, List.drop_zero]
        exact take_left' (le_length _ _)
      have hvn : val (le p.length 4) = p.length := val_le 4 _ (by have : (256 : Nat) ^ 4 = 4294967296 := by decide
                                                                  omega)
      have e2 : ((f' ++ behind).drop 9).take (p.length + 4) = f'.drop 9 := by
        rw [List.drop_append_of_le_length (by omega)]
        exact take_left' l2
      have hc2 : chk (f'.drop 9) = false := by
        have hck : chk (sealed p) = true := chk_sealed p
        by_cases h72 : 72 ≤ at_
        · have e : 2 ^ at_ * P / 2 ^ 72 = 2 ^ (at_ - 72) * P := by
            have : 2 ^ at_ = 2 ^ 72 * 2 ^ (at_ - 72) := by rw [← Nat.pow_add]; congr 1; omega
            rw [this, Nat.mul_assoc, Nat.mul_div_cancel_left _ (Nat.two_pow_pos _)]
          rw [e] at v2
          rw [Crc.chk_burst (sealed p) (f'.drop 9) (at_ - 72) P k (by omega) (by omega) hck v2 hP hk (by omega)]
          simp [hP0]
        · have h2 : 2 ^ 72 = 2 ^ at_ * 2 ^ (72 - at_) := by rw [← Nat.pow_add]; congr 1; omega
          have e : 2 ^ at_ * P / 2 ^ 72 = 2 ^ 0 * (P / 2 ^ (72 - at_)) := by
            rw [h2, Nat.mul_div_mul_left _ _ (Nat.two_pow_pos _)]; simp
          have em : P % 2 ^ (72 - at_) = 0 := by
            rw [h2, Nat.mul_mod_mul_left] at hD
            rcases Nat.mul_eq_zero.1 hD with h | h
            · have := Nat.two_pow_pos at_; omega
            · exact h
          have hP2 : P / 2 ^ (72 - at_) ≠ 0 := fun h => by
            have := Nat.div_add_mod P (2 ^ (72 - at_))
            rw [h, em] at this
            omega
          have hkk : 72 - at_ < k := by
            rcases Nat.lt_or_ge (72 - at_) k with h | h
            · exact h
            · have : P / 2 ^ (72 - at_) = 0 := Nat.div_eq_of_lt (Nat.lt_of_lt_of_le hP (Nat.pow_le_pow_right (by omega) h))
              exact absurd this hP2
          have hlt : P / 2 ^ (72 - at_) < 2 ^ (k - (72 - at_)) := by
            rw [Nat.div_lt_iff_lt_mul (Nat.two_pow_pos _), ← Nat.pow_add]
            have : k - (72 - at_) + (72 - at_) = k := by omega
            rw [this]; exact hP
          rw [e] at v2
          rw [Crc.chk_burst (sealed p) (f'.drop 9) 0 (P / 2 ^ (72 - at_)) (k - (72 - at_)) (by omega) (by omega) hck v2 hlt (by omega) (by omega)]
          simp [hP2]
      unfold decR
      rw [e1, eh, eq, hvn, e2, chk_sealed, hc2, hlen, if_neg (by omega), if_neg (by simp), if_neg (by omega), if_neg (by omega), if_pos rfl]
    · have h72 : at_ < 72 := by
        rcases Nat.lt_or_ge at_ 72 with h | h
        · exact h
        · exfalso; apply hD
          have : 2 ^ at_ = 2 ^ 72 * 2 ^ (at_ - 72) := by rw [← Nat.pow_add]; congr 1; omega
          rw [this, Nat.mul_assoc, Nat.mul_mod_right]
      have h2 : 2 ^ 72 = 2 ^ at_ * 2 ^ (72 - at_) := by rw [← Nat.pow_add]; congr 1; omega
      have e : 2 ^ at_ * P % 2 ^ 72 = 2 ^ at_ * (P % 2 ^ (72 - at_)) := by rw [h2, Nat.mul_mod_mul_left]
      rw [e] at v1 hD
      have hP1 : P % 2 ^ (72 - at_) ≠ 0 := fun h => hD (by rw [h, Nat.mul_zero])
      have hc1 : chk (f'.take 9) = false := by
        have hlt : P % 2 ^ (72 - at_) < 2 ^ (min k (72 - at_)) := by
          rcases Nat.le_total k (72 - at_) with h | h
          · rw [Nat.min_eq_left h]; exact Nat.lt_of_le_of_lt (Nat.mod_le _ _) hP
          · rw [Nat.min_eq_right h]; exact Nat.mod_lt _ (Nat.two_pow_pos _)
        rw [Crc.chk_burst (sealed (headF kd p.length)) (f'.take 9) at_ _ (min k (72 - at_)) (by omega) (by omega) (chk_sealed _) v1 hlt (by omega) (by omega)]
        simp [hP1]
      unfold decR
      rw [e1, hc1, hlen, if_neg (by omega), if_pos rfl]

set_option maxHeartbeats 1000000 in
/-- What stands behind the loop. -/
theorem frameNotices_walk (kind : UInt8) (l y : List UInt8) (A : Option Addr) (c : Nat) (B : Option Addr) (f0 : Nat) (a : Int) (p : Nat) (w : World) (h : Rd w 1 A l.length (bv l)) (hc : l.length ≤ c) (hr : c ≤ 140737488351232)
    (hy : Rd w 1 B y.length (bv y)) (hyf : y.length ≤ f0) (hsum : y.length + 4194400 ≤ 211106232532992) (ha : -9223372036854775808 ≤ a ∧ a < 9223372036854775808) (hp : p < 4294967296) :
    Calls Try.prog 18 #[.int .u8 kind.toNat, .slice A l.length c, .slice B y.length f0, .int .i64 a, .int .u32 p] w fun e w' => e = .returned (.bool true) ∧ Below w.heap.size w w' := by
  obtain ⟨pl, hp4, hcase⟩ := min_at h
  have hlc : (l.length : Int) ≤ (c : Int) := by omega
  rcases hcase with ⟨hbig, hpl⟩ | ⟨hbig, hpl⟩
  all_goals
    go_enter Try.func18, Try.ntmps18
    go_wp2_with fail
    refine (frameEncode_any kind pl A _ c w hpl hp4).mono ?_
    rintro e w1 ⟨v1, rfl, how1, hb1⟩
    have hln := encF_len kind pl
    have HS : Hid (∀ s : List UInt8, s = encF kind pl → s = encF kind pl) := Lib.hid fun _ h => h
    have HE := Lib.hid (show encF kind pl = encF kind pl from rfl)
    have hy1 := hy.below hb1
    generalize hs : encF kind pl = s at *
    have HSS := Lib.hid hs
    clear hs
    obtain ⟨A1, c1, rfl, r1, hc1, hm1⟩ := how1.form
    have HL := Lib.hid hln
    have hL4 : 13 ≤ s.length := by omega
    have hLm : s.length ≤ 4194317 := by omega
    have hL13 : ¬ ((s.length : Int) < 13) := by omega
    clear hln
    have hw8 : IntKind.i64.wrap (8 * (s.length : Int)) = 8 * (s.length : Int) := IntWalk.i64_in _ (by omega)
    obtain ⟨g, rfl, hbg, _⟩ := how1.head (by omega)
    go_wp2_with fail
    refine (mod_any a (8 * (s.length : Int)) _ ha (by omega)).mono ?_
    rintro e w2 ⟨rfl, rfl⟩
    have hat : 0 ≤ modz a (8 * (s.length : Int)) ∧ modz a (8 * (s.length : Int)) < 8 * (s.length : Int) := modz_range a (by omega)
    generalize modz a (8 * (s.length : Int)) = t at *
    obtain ⟨at_, rfl⟩ := Int.eq_ofNat_of_zero_le hat.1
    go_wp2_with fail
    go_loopw [13, 14] (fun v8 i wr => ∃ (k : Nat) (s' : List UInt8), k ≤ 32 ∧ at_ + k ≤ 8 * s.length ∧ i = .int .i64 k ∧ v8 = .bool (decide (p % 2 ^ k ≠ 0)) ∧ s'.length = s.length ∧
        Own wr w.heap.size (.slice (some ⟨g, 0, none⟩) s.length c1) s' ∧ val s' = val s ^^^ (2 ^ at_ * (p % 2 ^ k)) ∧ Below w.heap.size w wr) (fun _ i _ => 32 - (intOf i).toNat)
    case atStart => exact ⟨0, s, by omega, by omega, rfl, by simp [Nat.mod_one], rfl, how1, by simp [Nat.mod_one], hb1⟩
    case round =>
      obtain ⟨k, s', hk, hak, rfl, rfl, hl', how, hv, hb⟩ := hrel
      have HV := Lib.hid hv
      have HLS := Lib.hid hl'
      clear hv hl'
      by_cases hlt : k < 32 ∧ at_ + k < 8 * s.length
      · obtain ⟨hlt, hlt2⟩ := hlt
        have hi1 : ((at_ : Int) + (k : Int)) < 8 * (s.length : Int) := by omega
        have hi2 : IntKind.i64.wrap ((at_ : Int) + (k : Int)) = (at_ : Int) + (k : Int) := IntWalk.i64_in _ (by omega)
        have hj : (at_ + k) / 8 < s'.length := by have := HLS.out; omega
        obtain ⟨hc4, hf4⟩ := how.byteAt _ hj
        have hpk : p / 2 ^ k < 4294967296 := Nat.lt_of_le_of_lt (Nat.div_le_self _ _) hp
        have hand := u32_and_nat (p / 2 ^ k) 1 hpk (by omega)
        have hand2 : bits .and .u32 ((p : Int) / 2 ^ k) 1 = ((p / 2 ^ k % 2 : Nat) : Int) := by
          have e : (p / 2 ^ k) &&& 1 = p / 2 ^ k % 2 := Nat.and_one_is_mod _
          rw [← e]
          simpa using hand
        by_cases hbit : p / 2 ^ k % 2 = 1
        · have hq : (bits .and .u32 ((p : Int) / 2 ^ k) 1 == 1) = true := by rw [hand2, hbit]; rfl
          have HB := Lib.hid hbit
          clear hand hand2 hbit
          have h28 : 2 ^ ((at_ + k) % 8) < 256 := Nat.pow_lt_pow_right (by omega : 1 < 2) (show (at_ + k) % 8 < 8 by omega)
          have hy : bits .xor .u8 (s'[(at_ + k) / 8].toNat : Int) (2 ^ ((at_ + k) % 8) % 256) = ((s'[(at_ + k) / 8] ^^^ UInt8.ofNat (2 ^ ((at_ + k) % 8))).toNat : Int) := by
            rw [← bxor8', UInt8.toNat_ofNat', Nat.mod_eq_of_lt h28, show ((2 : Int) ^ ((at_ + k) % 8) % 256) = ((2 ^ ((at_ + k) % 8) : Nat) : Int) by
              push_cast
              have : ((2 ^ ((at_ + k) % 8) : Nat) : Int) < 256 := by exact_mod_cast h28
              push_cast at this
              exact Int.emod_eq_of_lt (two_nonneg _) this]
          have hyn : (s'[(at_ + k) / 8] ^^^ UInt8.ofNat (2 ^ ((at_ + k) % 8))).toNat = s'[(at_ + k) / 8].toNat ^^^ 2 ^ ((at_ + k) % 8) := by
            rw [UInt8.toNat_xor, UInt8.toNat_ofNat', Nat.mod_eq_of_lt h28]
          have HY := Lib.hid hyn
          clear hyn
          generalize s'[(at_ + k) / 8] ^^^ UInt8.ofNat (2 ^ ((at_ + k) % 8)) = yy at *
          go_wp2_with fail
          go_roundw
          case rel =>
            refine ⟨k + 1, s'.set ((at_ + k) / 8) yy, by omega, by omega, by go_num, ?_, by rw [List.length_set]; exact HLS.out, how.store _ yy, ?_, hb.setCell hbg _⟩
            · have h1 := Nat.mod_pow_succ (b := 2) (x := p) (k := k)
              rw [HB.out] at h1
              have h2 := Nat.two_pow_pos k
              have : decide (p % 2 ^ (k + 1) ≠ 0) = true := by simp only [ne_eq, decide_eq_true_eq]; omega
              rw [this]
            · rw [Crc.val_flip s' _ _ hj yy HY.out, HV.out, Crc.next_bit1 _ _ HB.out, Crc.two_xor, ← Nat.pow_add, Nat.xor_assoc]
              congr 3
              omega
          case measure => simp [intOf]; omega
        · have hbit0 : p / 2 ^ k % 2 = 0 := by omega
          have hq : (bits .and .u32 ((p : Int) / 2 ^ k) 1 == 1) = false := by rw [hand2, hbit0]; rfl
          have HB := Lib.hid hbit0
          clear hand hand2 hbit hbit0
          go_wp2_with fail
          go_roundw
          case rel =>
            refine ⟨k + 1, s', by omega, by omega, by go_num, ?_, HLS.out, how, ?_, hb⟩
            · rw [Crc.next_bit0 _ _ HB.out]; simp
            · rw [Crc.next_bit0 _ _ HB.out]; exact HV.out
          case measure => simp [intOf]; omega
      · have hdec := decR_burst kind pl y s' hp4 at_ (p % 2 ^ k) k (by rw [HLS.out, HL.out]) (by rw [HSS.out]; exact HV.out) (Nat.mod_lt _ (Nat.two_pow_pos k)) hk (by have := HL.out; omega)
        have hq : ∀ q : Nat, (((if q = 0 then 0 else 6 : Nat) : Int) == 6) = decide (q ≠ 0) := fun q => by by_cases hq : q = 0 <;> simp [hq]
        have hq2 : ∀ q : Nat, (((if q = 0 then 0 else 6 : Nat) : Int) == 0) = !decide (q ≠ 0) := fun q => by by_cases hq : q = 0 <;> simp [hq]
        have HD := Lib.hid hdec
        have HQ := Lib.hid hq
        have HQ2 := Lib.hid hq2
        have hyr := hy.below hb
        generalize p % 2 ^ k = q at *
        have hq1 := HQ.out q
        have hq3 := HQ2.out q
        clear hdec hq hq2
        have hkk : ¬ ((k : Int) < 32) ∨ (k < 32 ∧ ¬ ((at_ : Int) + (k : Int)) < 8 * (s.length : Int)) := by omega
        have hi2 : IntKind.i64.wrap ((at_ : Int) + (k : Int)) = (at_ : Int) + (k : Int) := IntWalk.i64_in _ (by omega)
        clear hlt
        rcases hkk with hlt | ⟨hlt, hlt2⟩
        all_goals
          go_wp2_with (at_builtin; refine wpList_append_rd rfl (.tmp 76) (.tmp 77) rfl w.heap.size _ s' rfl how B y.length f0 y rfl hyr (by have := HLS.out; omega) hb.size ?_; intro v4 w4 how4 hg4 hat4; have hb4 := below_grown hb how hg4 (Nat.le_refl _) hb.size; obtain ⟨A4, c4, rfl, r4, hc4, _⟩ := how4.form)
          have hl4 : s'.length + y.length = (s' ++ y).length := by simp
          have hfd := frameDecode_any (s' ++ y) A4 (s'.length + y.length) c4 0 w4 (by rw [hl4]; exact r4) (by rw [hl4]; exact hc4) (by have := HLS.out; simp; omega) (by simp)
          clear hl4
          rw [List.drop_zero] at hfd
          refine hfd.mono ?_
          rintro e w5 ⟨v5, rfl, ⟨A5, c5, rfl, hc5, r5⟩, hb5⟩
          have hE : ((decR (s' ++ y)).2.2.2 = 0 ∧ q = 0) ∨ ((decR (s' ++ y)).2.2.2 = 6 ∧ ¬ q = 0) := by
            have := HD.out
            by_cases hq0 : q = 0
            · exact .inl ⟨by rw [this, if_pos hq0], hq0⟩
            · exact .inr ⟨by rw [this, if_neg hq0], hq0⟩
          clear HD hq1 hq3
          generalize (decR (s' ++ y)).2.2.2 = er at *
          generalize decN 0 (decR (s' ++ y)) = nx at *
          generalize (decR (s' ++ y)).1 = kk at *
          generalize (decR (s' ++ y)).2.1 = pp at *
          have hbb5 := hb4.trans (hb5.mono hb4.size)
          clear hfd how4 r4 hc4 hg4 hat4 r1 how1 hyr
          have hal : Below w5.heap.size w5 (w5.alloc (.cells #[.int .u8 kk.toNat, .slice A5 pp.length c5] 89)) := (Below.refl _ _).alloc (Nat.le_refl _) _
          rcases hE with ⟨rfl, hq0⟩ | ⟨rfl, hq0⟩
          all_goals
            go_wp2_with fail
            refine (known07_any _).mono ?_
            rintro e w6 ⟨rfl, hb6⟩
            have hbb6 := hbb5.trans ((hal.trans (hb6.mono hal.size)).mono hbb5.size)
            go_wp2_with fail
            go_ret
            exact ⟨rfl, hbb6⟩
theorem frameNotices_law (a0 : Int) (A1 : Option Addr) (n1 c1 : Nat) (z1 : List Int) (A2 : Option Addr) (n2 c2 : Nat) (z2 : List Int) (a3 a4 : Int) (w : World) (w0 : (Lit.int .u8 a0).wf = true) (w1 : IsRow .u8 w A1 n1 c1 z1) (r1 : c1 * 1 ≤ 140737488351232)
    (w2 : IsRow .u8 w A2 n2 c2 z2) (r2 : c2 * 1 ≤ 140737488351232) (w3 : (Lit.int .i64 a3).wf = true) (w4 : (Lit.int .u32 a4).wf = true) :
    Calls Try.prog 18 #[.int .u8 a0, .slice A1 n1 c1, .slice A2 n2 c2, .int .i64 a3, .int .u32 a4] w fun e w' => e = .returned (.bool true) ∧ Below w.heap.size w w' := by
  obtain ⟨k, rfl⟩ := u8_of w0
  obtain ⟨l, _, hc, h⟩ := w1.bytes
  obtain ⟨y, _, hc2, hy⟩ := w2.bytes
  have hn := h.len
  have hn2 := hy.len
  subst hn hn2
  have h2 := wf_u32 w4
  obtain ⟨p, rfl⟩ := Int.eq_ofNat_of_zero_le h2.1
  exact frameNotices_walk k l y A1 c1 A2 c2 a3 p w h hc (by omega) hy hc2 (by omega) (wf_i64 w3) (by omega)
end Go.Proofs.Ytabgmodllifgjaa
