/- Headers and trailers: what is decoded of encoded ones, of cut ones, of ones with a burst. Plain laws. -/
import Derived.Test.YtabgmodllifgjaaLay2b
import Derived.Test.YtabgmodllifgjaaCrcLaw4
namespace Go.Proofs.Ytabgmodllifgjaa
open Go.RowKit Go.Ab
set_option maxRecDepth 100000
set_option linter.unusedVariables false
set_option linter.unusedSimpArgs false

theorem val_inj' : ∀ (a b : List UInt8), a.length = b.length → val a = val b → a = b
  | [], [], _, _ => rfl
  | [], _ :: _, h, _ => by simp at h
  | _ :: _, [], h, _ => by simp at h
  | x :: a, y :: b, h, hv => by
    have hx := x.toNat_lt
    have hy := y.toNat_lt
    simp only [val] at hv
    have h1 : x.toNat = y.toNat := by omega
    have h2 : val a = val b := by omega
    rw [UInt8.toNat_inj.1 h1, val_inj' a b (by simpa using h) h2]
theorem dl {a b : List UInt8} {n : Nat} (h : a.length = n) : (a ++ b).drop n = b := by subst h; exact List.drop_left
theorem tl {a b : List UInt8} {n : Nat} (h : a.length = n) : (a ++ b).take n = a := by subst h; exact List.take_left
theorem header_len (c t k : Nat) : (header c t k).length = 21 := by rw [header, List.length_append, hdrB_len, le_length]
theorem trailer_len (o : Nat) : (trailer o).length = 16 := by simp [trailer, endMark, le_length]
theorem chk_header (c t k : Nat) : chk (header c t k) = true := chk_append _
theorem chk_trailer (o : Nat) : chk (trailer o) = true := chk_append _
theorem mk_header (c t k : Nat) : mk (header c t k) tscMark 21 = 0 := by
  unfold mk
  have h1 : (header c t k).take 21 = header c t k := List.take_of_length_le (by rw [header_len]; exact Nat.le_refl _)
  have h2 : (header c t k).take tscMark.length = tscMark := by
    unfold header hdrB hdrA
    simp only [List.append_assoc]
    exact tl rfl
  rw [header_len, if_neg (by omega), if_pos h2, h1, chk_header]
  rfl
theorem mk_trailer (o : Nat) : mk (trailer o) endMark 16 = 0 := by
  unfold mk
  have h1 : (trailer o).take 16 = trailer o := List.take_of_length_le (by rw [trailer_len]; exact Nat.le_refl _)
  have h2 : (trailer o).take endMark.length = endMark := by
    unfold trailer
    simp only [List.append_assoc]
    exact tl rfl
  rw [trailer_len, if_neg (by omega), if_pos h2, h1, chk_trailer]
  rfl
theorem decE_header (c t k : Nat) (h : vcfg c t k = 0) : decE (header c t k) = 0 := by
  obtain ⟨g1, g2, g3, g4, g5, g6⟩ := vcfg_ok h
  have e1 : hC (header c t k) = c := by
    unfold hC
    have : (header c t k).getD 4 0 = UInt8.ofNat c := rfl
    rw [this]
    simp
    omega
  have e2 : hT (header c t k) = t := by
    unfold hT
    have : ((header c t k).drop 5).take 8 = le t 8 := by
      unfold header hdrB
      simp only [List.append_assoc]
      rw [dl (by simp [hdrA, tscMark])]
      exact tl (le_length _ _)
    rw [this, val_le 8 t (by have : (256 : Nat) ^ 8 = 18446744073709551616 := by decide
                             omega)]
    exact IntWalk.i64_in _ (by omega)
  have e3 : hK (header c t k) = k := by
    unfold hK
    have : ((header c t k).drop 13).take 4 = le k 4 := by
      unfold header hdrB
      have hl : (hdrA c ++ le t 8).length = 13 := by simp [hdrA, tscMark, le_length]
      rw [List.append_assoc, dl hl]
      exact tl (le_length _ _)
    rw [this, val_le 4 k (by have : (256 : Nat) ^ 4 = 4294967296 := by decide
                             omega)]
  unfold decE
  rw [if_pos (mk_header c t k), e1, e2, e3]
  exact h
theorem decT_trailer (o : Nat) (h1 : 21 ≤ o) (h2 : o ≤ 1073741824) : (decT (trailer o)).2 = 0 := by
  have e : val (((trailer o).drop 4).take 8) = o := by
    have : ((trailer o).drop 4).take 8 = le o 8 := by
      unfold trailer
      rw [List.append_assoc, dl (show endMark.length = 4 from rfl)]
      exact tl (le_length _ _)
    rw [this, val_le 8 o (by have : (256 : Nat) ^ 8 = 18446744073709551616 := by decide
                             omega)]
  unfold decT
  rw [if_pos (mk_trailer o), e]
  simp only
  rw [if_pos ⟨h1, h2⟩]
theorem decE_cut (l : List UInt8) (k : Nat) (h : k < 21) : decE (l.take k) = 4 := by
  have : mk (l.take k) tscMark 21 = 4 := by unfold mk; rw [if_pos (by rw [List.length_take]; omega)]
  unfold decE
  rw [this]
  rfl
theorem decT_cut (l : List UInt8) (k : Nat) (h : k < 16) : (decT (l.take k)).2 = 4 := by
  have : mk (l.take k) endMark 16 = 4 := by unfold mk; rw [if_pos (by rw [List.length_take]; omega)]
  unfold decT
  rw [this]
  rfl
theorem mk_bad (l m : List UInt8) (sz : Nat) (hl : l.length = sz) (hc : chk l = false) : mk l m sz = 5 ∨ mk l m sz = 6 := by
  unfold mk
  rw [if_neg (by omega), List.take_of_length_le (by omega : l.length ≤ sz), hc]
  split
  · exact .inr rfl
  · exact .inl rfl
theorem decE_burst (c t k : Nat) (h : vcfg c t k = 0) (l : List UInt8) (hl : l.length = 21) (at_ q n : Nat) (hv : val l = val (header c t k) ^^^ (2 ^ at_ * q)) (hq : q < 2 ^ n) (hn : n ≤ 32) (ha : at_ + n ≤ 168) :
    (q = 0 → decE l = 0) ∧ (q ≠ 0 → decE l = 5 ∨ decE l = 6) := by
  constructor
  · rintro rfl
    rw [val_inj' l (header c t k) (by rw [hl, header_len]) (by rw [hv]; simp)]
    exact decE_header c t k h
  · intro h0
    have hc : chk l = false := by
      rw [Crc.chk_burst (header c t k) l at_ q n (by rw [header_len]; omega) (by rw [hl, header_len]) (chk_header c t k) hv hq hn (by rw [header_len]; omega)]
      simp [h0]
    have := mk_bad l tscMark 21 hl hc
    unfold decE
    rw [if_neg (by omega)]
    exact this
theorem decT_burst (o : Nat) (h1 : 21 ≤ o) (h2 : o ≤ 1073741824) (l : List UInt8) (hl : l.length = 16) (at_ q n : Nat) (hv : val l = val (trailer o) ^^^ (2 ^ at_ * q)) (hq : q < 2 ^ n) (hn : n ≤ 32) (ha : at_ + n ≤ 128) :
    (q = 0 → (decT l).2 = 0) ∧ (q ≠ 0 → (decT l).2 = 5 ∨ (decT l).2 = 6) := by
  constructor
  · rintro rfl
    rw [val_inj' l (trailer o) (by rw [hl, trailer_len]) (by rw [hv]; simp)]
    exact decT_trailer o h1 h2
  · intro h0
    have hc : chk l = false := by
      rw [Crc.chk_burst (trailer o) l at_ q n (by rw [trailer_len]; omega) (by rw [hl, trailer_len]) (chk_trailer o) hv hq hn (by rw [trailer_len]; omega)]
      simp [h0]
    have := mk_bad l endMark 16 hl hc
    unfold decT
    rw [if_neg (by omega)]
    exact this
/-- The bit n of the string turned. -/
def turned (l : List UInt8) (n : Nat) : List UInt8 := l.set (n / 8) (l.getD (n / 8) 0 ^^^ UInt8.ofNat (2 ^ (n % 8)))
theorem turned_len (l : List UInt8) (n : Nat) : (turned l n).length = l.length := List.length_set
theorem two_lt8 (n : Nat) : 2 ^ (n % 8) < 256 := Nat.pow_lt_pow_right (by omega : 1 < 2) (show n % 8 < 8 by omega)
theorem turned_val (l : List UInt8) (n : Nat) (h : n / 8 < l.length) : val (turned l n) = val l ^^^ 2 ^ n := by
  have e : l.getD (n / 8) 0 = l[n / 8] := by simp [h]
  unfold turned
  rw [Crc.val_flip l (n / 8) (n % 8) h _ (by rw [e, UInt8.toNat_xor, UInt8.toNat_ofNat', Nat.mod_eq_of_lt (two_lt8 n)])]
  congr 2
  omega
theorem turned_xor (l : List UInt8) (n : Nat) : bits .xor .u8 ((l.getD (n / 8) 0).toNat : Int) (IntKind.u8.wrap (1 * 2 ^ min (((n % 8 : Nat) : Int)).toNat IntKind.u8.bits)) = ((l.getD (n / 8) 0 ^^^ UInt8.ofNat (2 ^ (n % 8))).toNat : Int) := by
  have e1 : min (((n % 8 : Nat) : Int)).toNat IntKind.u8.bits = n % 8 := by rw [Int.toNat_natCast]; exact Nat.min_eq_left (by show n % 8 ≤ 8; omega)
  have h := two_lt8 n
  have e2 : IntKind.u8.wrap (1 * 2 ^ (n % 8)) = ((UInt8.ofNat (2 ^ (n % 8))).toNat : Int) := by
    rw [Int.one_mul, UInt8.toNat_ofNat', Nat.mod_eq_of_lt h, show ((2 : Int) ^ (n % 8)) = ((2 ^ (n % 8) : Nat) : Int) by push_cast; rfl]
    have hq : ∀ q : Nat, q < 256 → IntKind.u8.wrap (q : Int) = q := fun q hq => IntWalk.u8_in _ (by omega)
    exact hq _ h
  rw [e1, e2]
  exact bxor8' _ _
theorem turned_bys (l : List UInt8) (n : Nat) : (bys l).set (n / 8) [.v (.int .u8 ((l.getD (n / 8) 0 ^^^ UInt8.ofNat (2 ^ (n % 8))).toNat : Int))] = bys (turned l n) := by
  unfold bys turned
  rw [List.map_set]
theorem burst1 (h l : List UInt8) (f p m : Nat) (hb : p / 2 ^ m % 2 = 1) (hv : val l = val h ^^^ (2 ^ f * (p % 2 ^ m))) (hj : (f + m) / 8 < l.length) :
    val (turned l (f + m)) = val h ^^^ (2 ^ f * (p % 2 ^ (m + 1))) ∧ true = decide (p % 2 ^ (m + 1) ≠ 0) := by
  constructor
  · rw [turned_val _ _ hj, hv, Crc.next_bit1 _ _ hb, Crc.two_xor, ← Nat.pow_add, Nat.xor_assoc]
  · have h1 := Nat.mod_pow_succ (b := 2) (x := p) (k := m)
    rw [hb] at h1
    have h2 := Nat.two_pow_pos m
    have : decide (p % 2 ^ (m + 1) ≠ 0) = true := by simp only [ne_eq, decide_eq_true_eq]; omega
    exact this.symm
theorem burst0 (h l : List UInt8) (f p m : Nat) (c : Bool) (hb : ¬ p / 2 ^ m % 2 = 1) (hv : val l = val h ^^^ (2 ^ f * (p % 2 ^ m))) (hc : c = decide (p % 2 ^ m ≠ 0)) :
    val l = val h ^^^ (2 ^ f * (p % 2 ^ (m + 1))) ∧ c = decide (p % 2 ^ (m + 1) ≠ 0) := by
  rw [Crc.next_bit0 _ _ (by omega)]
  exact ⟨hv, hc⟩
end Go.Proofs.Ytabgmodllifgjaa
