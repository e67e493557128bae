/- The walk of the law CrcLinear. Conditions: those of the row. -/
import Derived.Test.YtabgmodllifgjaaCrcLaw2
import Derived.StillTailTactics
namespace Go.Proofs.Ytabgmodllifgjaa
open Go.RowKit
set_option maxRecDepth 100000
set_option linter.unusedVariables false

def xor3 (a b c : List UInt8) : List UInt8 := List.zipWith (· ^^^ ·) (List.zipWith (· ^^^ ·) a b) c
theorem up_xor3 (x y z a b c : Nat) : Crc.up (x ^^^ y ^^^ z) (a ^^^ b ^^^ c) = Crc.up x a ^^^ Crc.up y b ^^^ Crc.up z c := by
  have hx : ∀ p q : Nat, (p ^^^ q) % 256 = (p % 256) ^^^ (q % 256) := fun p q => Nat.xor_mod_two_pow (n := 8)
  have hd : ∀ p q : Nat, (p ^^^ q) / 256 = (p / 256) ^^^ (q / 256) := fun p q => Nat.xor_div_two_pow (n := 8)
  have key : ∀ p q u v : Nat, Crc.up (p ^^^ q) (u ^^^ v) = Crc.up p u ^^^ Crc.up q v := fun p q u v => by
    unfold Crc.up
    rw [Crc.xor_comm4, hx, hd, Crc.el_xor, Crc.xor_comm4]
  rw [key, key]
theorem raw_xor3 (a : List UInt8) : ∀ (b c : List UInt8), a.length = b.length → a.length = c.length → ∀ x y z : Nat,
    Crc.raw (x ^^^ y ^^^ z) (xor3 a b c) = Crc.raw x a ^^^ Crc.raw y b ^^^ Crc.raw z c := by
  induction a with
  | nil =>
    intro b c h1 h2 x y z
    cases b with
    | nil => cases c with
      | nil => rfl
      | cons _ _ => simp at h2
    | cons _ _ => simp at h1
  | cons p ps ih =>
    intro b c h1 h2 x y z
    cases b with
    | nil => simp at h1
    | cons q qs => cases c with
      | nil => simp at h2
      | cons r rs =>
        have h := ih qs rs (by simpa using h1) (by simpa using h2) (Crc.up x p.toNat) (Crc.up y q.toNat) (Crc.up z r.toNat)
        rw [← up_xor3] at h
        show Crc.raw (Crc.up (x ^^^ y ^^^ z) (p ^^^ q ^^^ r).toNat) (xor3 ps qs rs) = _
        rw [UInt8.toNat_xor, UInt8.toNat_xor]
        exact h
theorem xor_not (x : Nat) (h : x < 4294967296) : 4294967295 - x = 4294967295 ^^^ x := by
  apply Nat.eq_of_testBit_eq
  intro i
  have e1 : 4294967295 - x = 2 ^ 32 - (x + 1) := by omega
  have e2 : 4294967295 = 2 ^ 32 - (0 + 1) := by decide
  rw [e1, Nat.testBit_two_pow_sub_succ (by omega), Nat.testBit_xor, e2, Nat.testBit_two_pow_sub_succ (by omega)]
  by_cases hi : i < 32
  · simp [hi]
  · have : x.testBit i = false := Nat.testBit_lt_two_pow (Nat.lt_of_lt_of_le (show x < 2 ^ 32 by omega) (Nat.pow_le_pow_right (by omega) (by omega)))
    simp [hi, this]
/-- The checksum of the sum of three byte strings of one length. -/
theorem crc_xor3 (a b c : List UInt8) (h1 : a.length = b.length) (h2 : a.length = c.length) : Crc.crc 0 (xor3 a b c) = Crc.crc 0 a ^^^ Crc.crc 0 b ^^^ Crc.crc 0 c := by
  have h := raw_xor3 a b c h1 h2 4294967295 4294967295 4294967295
  have e : 4294967295 ^^^ 4294967295 ^^^ 4294967295 = 4294967295 := by decide
  rw [e] at h
  have hl : ∀ l, Crc.raw 4294967295 l < 4294967296 := fun l => Crc.raw_lt l (by omega)
  unfold Crc.crc
  rw [Nat.sub_zero, xor_not _ (hl _), xor_not _ (hl a), xor_not _ (hl b), xor_not _ (hl c), h]
  generalize Crc.raw 4294967295 a = p
  generalize Crc.raw 4294967295 b = q
  generalize Crc.raw 4294967295 c = r
  have e2 : (4294967295 ^^^ p) ^^^ (4294967295 ^^^ q) = p ^^^ q := by rw [Crc.xor_comm4, Nat.xor_self, Nat.zero_xor]
  rw [e2]
  generalize 4294967295 = N
  ac_rfl
theorem xor3_snoc (a b c : List UInt8) (x y z : UInt8) (h1 : a.length = b.length) (h2 : a.length = c.length) : xor3 (a ++ [x]) (b ++ [y]) (c ++ [z]) = xor3 a b c ++ [x ^^^ y ^^^ z] := by
  unfold xor3
  rw [List.zipWith_append h1, List.zipWith_append (by simp [h1, ← h2])]
  rfl
theorem bxor8 (a b : UInt8) : bits .xor .u8 (a.toNat : Int) (b.toNat : Int) = ((a ^^^ b).toNat : Int) := by
  rw [UInt8.toNat_xor]; exact u8_xor_nat _ _ a.toNat_lt b.toNat_lt
def ApartB (v u : Value) : Prop := v.ownBlock = none ∨ v.ownBlock ≠ u.ownBlock
theorem ApartB.nil (u : Value) : ApartB (.slice none 0 0) u := .inl rfl
theorem ApartB.right {v u u' : Value} {N : Nat} (h : ApartB v u) (h1 : u'.ownBlock = u.ownBlock ∨ u'.ownBlock = some N) (hN : ∀ g, v.ownBlock = some g → g < N) : ApartB v u' := by
  rcases h with h | h
  · exact .inl h
  · rcases h1 with e | e
    · exact .inr (by rw [e]; exact h)
    · refine .inr fun he => ?_
      rw [e] at he
      have := hN N he
      omega
theorem ApartB.left {v v' u : Value} {N : Nat} (h : ApartB v u) (h1 : v'.ownBlock = v.ownBlock ∨ v'.ownBlock = some N) (hN : ∀ g, u.ownBlock = some g → g < N) : ApartB v' u := by
  rcases h1 with e | e
  · rcases h with h | h
    · exact .inl (e.trans h)
    · exact .inr (by rw [e]; exact h)
  · refine .inr fun he => ?_
    rw [e] at he
    have := hN N he.symm
    omega

set_option maxHeartbeats 4000000 in
theorem crcLinear_walk (l : List UInt8) (A : Option Addr) (n c : Nat) (z : List Int) (B : Option Addr) (m d : Nat) (w : World) (h : Rd w 1 A n (bv l)) (hc : n ≤ c) (hr : c ≤ 140737488351232)
    (hz : Rd w 1 B m (iv z)) (hI : Ints z) (hm : m ≤ 140737488351232) (hB : 0 < m → ∀ ad, B = some ad → ad.block < w.heap.size) :
    Calls Try.prog 5 #[.slice A n c, .slice B m d] w fun e w' => e = .returned (.bool true) ∧ Below w.heap.size w w' := by
  have hn := h.len
  subst hn
  go_enter Try.func5, Try.ntmps5
  go_wp2_with fail
  refine (new_any z B m d w hz hI hm hB).mono ?_
  rintro e w1 ⟨rfl, hT1, hb1⟩
  go_wp2_with fail
  go_loopw [6, 7, 8, 9] (fun v6 v7 v8 i wr => ∃ (k : Nat) (b cc dd : List UInt8) (r : List Int), k ≤ l.length ∧ i = .int .i64 k ∧ b.length = k ∧ cc.length = k ∧ dd = xor3 (l.take k) b cc ∧ dd.length = k ∧
      Own wr (w.heap.size + 1) v6 b ∧ Own wr (w.heap.size + 1) v7 cc ∧ Own wr (w.heap.size + 1) v8 dd ∧ ApartB v6 v7 ∧ ApartB v6 v8 ∧ ApartB v7 v6 ∧ ApartB v7 v8 ∧ ApartB v8 v6 ∧ ApartB v8 v7 ∧
      TapeAt wr w.heap.size r ∧ Below w.heap.size w wr) (fun _ _ _ i _ => l.length - (intOf i).toNat)
  case atStart => exact ⟨0, [], [], [], z, by omega, rfl, rfl, rfl, rfl, rfl, Own.nil _ _, Own.nil _ _, Own.nil _ _, ApartB.nil _, ApartB.nil _, ApartB.nil _, ApartB.nil _, ApartB.nil _, ApartB.nil _, hT1, hb1⟩
  case round =>
    obtain ⟨k, b, cc, dd, r, hk, rfl, hlb, hlc, hdd, hld, ho6, ho7, ho8, a67, a68, a76, a78, a86, a87, hT, hb⟩ := hrel
    have HLB := Lib.hid hlb
    have HLC := Lib.hid hlc
    have HDD := Lib.hid hdd
    have HLD := Lib.hid hld
    clear hlb hlc hdd hld
    by_cases hlt : k < l.length
    · go_wp2_with fail
      refine (next_any w.heap.size r 256 (by omega) wr hT).mono ?_
      rintro e w2 ⟨rfl, hT2, hg2⟩
      have hx := hdz_range r (show (1 : Int) ≤ 256 by omega)
      generalize hdz r 256 = x at *
      have hp : w.heap.size < w.heap.size + 1 := by omega
      have p6 := ho6.tape hg2 hp
      have p7 := ho7.tape hg2 hp
      have p8 := ho8.tape hg2 hp
      have hs2 := hg2.size
      have hB2 : w.heap.size < wr.heap.size := hT.lt
      go_wp2_with (at_builtin; refine wpList_append_rd rfl (.tmp 18) (.tmp 22) rfl (w.heap.size + 1) u6 b rfl (p6.alloc _) _ 1 1 _ rfl (Rd.one w2 x hx.1 hx.2) (by have := HLB.out; omega) (by simp; omega) ?_; intro v6 w3 q6 hg3 at6)
      have HX1 : Hid (∃ y : UInt8, UInt8.ofNat x.toNat = y ∧ x = y.toNat) := Lib.hid ⟨_, rfl, by rw [UInt8.toNat_ofNat']; omega⟩
      generalize UInt8.ofNat x.toNat = y at *
      have hT3 : TapeAt w3 w.heap.size r.tail := (hT2.below ((Below.refl _ _).alloc (Nat.le_refl _) _)).grown hg3 (fun g e => by have := (p6.ownBlock g e).1; omega)
      have q7 : Own w3 (w.heap.size + 1) u7 cc := (p7.alloc _).grown hg3 a76
      have q8 : Own w3 (w.heap.size + 1) u8 dd := (p8.alloc _).grown hg3 a86
      have hb2 : Below w.heap.size w w2 := hb.grown hg2 hb.size (fun g e => by injection e with e; omega)
      have hb3 : Below w.heap.size w w3 := below_grown (hb2.alloc hb2.size _) (p6.alloc _) hg3 (by omega) (by simp; omega)
      have hs3 := hg3.size
      simp only [World.size_alloc] at hs3 at6
      have b67 : ApartB v6 u7 := a67.left at6 (fun g e => by have := (p7.ownBlock g e).2; omega)
      have b76 : ApartB u7 v6 := a76.right at6 (fun g e => by have := (p7.ownBlock g e).2; omega)
      have b68 : ApartB v6 u8 := a68.left at6 (fun g e => by have := (p8.ownBlock g e).2; omega)
      have b86 : ApartB u8 v6 := a86.right at6 (fun g e => by have := (p8.ownBlock g e).2; omega)
      clear at6 hg3 a67 a76 a68 a86
      refine (next_any w.heap.size r.tail 256 (by omega) w3 hT3).mono ?_
      rintro e w4 ⟨rfl, hT4, hg4⟩
      have hx2 := hdz_range r.tail (show (1 : Int) ≤ 256 by omega)
      generalize hdz r.tail 256 = x2 at *
      have s6 := q6.tape hg4 hp
      have s7 := q7.tape hg4 hp
      have s8 := q8.tape hg4 hp
      have hs4 := hg4.size
      have hb4 : Below w.heap.size w w4 := hb3.grown hg4 hb3.size (fun g e => by injection e with e; omega)
      clear p6 p7 p8 ho6 ho7 ho8 q6 q7 q8
      go_wp2_with (at_builtin; refine wpList_append_rd rfl (.tmp 24) (.tmp 28) rfl (w.heap.size + 1) u7 cc rfl (s7.alloc _) _ 1 1 _ rfl (Rd.one w4 x2 hx2.1 hx2.2) (by have := HLC.out; omega) (by simp; omega) ?_; intro v7 w5 t7 hg5 at7)
      have HX2 : Hid (∃ y2 : UInt8, UInt8.ofNat x2.toNat = y2 ∧ x2 = y2.toNat) := Lib.hid ⟨_, rfl, by rw [UInt8.toNat_ofNat']; omega⟩
      generalize UInt8.ofNat x2.toNat = y2 at *
      have hT5 : TapeAt w5 w.heap.size r.tail.tail := (hT4.below ((Below.refl _ _).alloc (Nat.le_refl _) _)).grown hg5 (fun g e => by have := (s7.ownBlock g e).1; omega)
      have t6 : Own w5 (w.heap.size + 1) v6 (b ++ [y]) := (s6.alloc _).grown hg5 b67
      have t8 : Own w5 (w.heap.size + 1) u8 dd := (s8.alloc _).grown hg5 a87
      have hb5 : Below w.heap.size w w5 := below_grown (hb4.alloc hb4.size _) (s7.alloc _) hg5 (by omega) (by simp; omega)
      have hs5 := hg5.size
      simp only [World.size_alloc] at hs5 at7
      have c67 : ApartB v6 v7 := b67.right at7 (fun g e => by have := (s6.ownBlock g e).2; omega)
      have c76 : ApartB v7 v6 := b76.left at7 (fun g e => by have := (s6.ownBlock g e).2; omega)
      have c78 : ApartB v7 u8 := a78.left at7 (fun g e => by have := (s8.ownBlock g e).2; omega)
      have c87 : ApartB u8 v7 := a87.right at7 (fun g e => by have := (s8.ownBlock g e).2; omega)
      clear at7 hg5 s6 s7 s8 b67 b76 a78 a87
      have l6 : (b ++ [y]).length = k + 1 := by have := HLB.out; simp; omega
      have l7 : (cc ++ [y2]).length = k + 1 := by have := HLC.out; simp; omega
      have e6 : ∀ hh : k < (b ++ [y]).length, (b ++ [y])[k] = y := fun hh => by have := HLB.out; subst this; simp
      have e7 : ∀ hh : k < (cc ++ [y2]).length, (cc ++ [y2])[k] = y2 := fun hh => by have := HLC.out; subst this; simp
      obtain ⟨A6, c6, rfl, r6, hc6, _⟩ := t6.form
      obtain ⟨A7, c7, rfl, r7, hc7, _⟩ := t7.form
      obtain ⟨ad6, h6, rfl, f6⟩ := r6.byte (k := k) (by omega)
      obtain ⟨ad7, h7, rfl, f7⟩ := r7.byte (k := k) (by omega)
      rw [e6] at f6
      rw [e7] at f7
      obtain ⟨ad, h1, rfl, f1⟩ := (h.below hb5).byte hlt
      have n1 : ¬ u8.ownBlock = some (ad.add k).block := fun e => by
        have := (t8.ownBlock _ e).1
        have hb' := block_lt_of_cell (h.at_ hlt).choose_spec.choose_spec.2.2
        have e1 := (h.at_ hlt).choose_spec.choose_spec.1
        injection e1 with e1
        rw [← e1] at hb'
        omega
      have L6 := Lib.hid l6
      have L7 := Lib.hid l7
      have T6 := Lib.hid t6
      have T7 := Lib.hid t7
      clear l6 l7 e6 e7 r6 r7 h6 h7
      have hi0 : (0 : Int) ≤ (k : Int) := by omega
      have hi1 : (k : Int) < (l.length : Int) := by omega
      have hi6 : (k : Int) < ((b ++ [y]).length : Int) := by have := L6.out; omega
      have hi7 : (k : Int) < ((cc ++ [y2]).length : Int) := by have := L7.out; omega
      have hxa := bxor8 l[k] y
      have HP1 : Hid (∃ q : UInt8, q = l[k] ^^^ y) := Lib.hid ⟨_, rfl⟩
      have hxb := bxor8 (l[k] ^^^ y) y2
      have HP2 : Hid (l[k] ^^^ y ^^^ y2 = l[k] ^^^ y ^^^ y2) := Lib.hid rfl
      generalize h2 : l[k] ^^^ y ^^^ y2 = q2 at hxb
      have HQ2 := Lib.hid h2
      clear h2
      generalize l[k] ^^^ y = q1 at hxa hxb
      generalize (b ++ [y]).length = n6 at *
      generalize (cc ++ [y2]).length = n7 at *
      have g1 : ∀ d : BelM (fun _ => False) w5, d.1.cell? (ad.add k) = some (.int .u8 l[k].toNat) := fun d => BelM.cell d f1 id
      have g6 : ∀ d : BelM (fun _ => False) w5, d.1.cell? (ad6.add k) = some (.int .u8 y.toNat) := fun d => BelM.cell d f6 id
      have g7 : ∀ d : BelM (fun _ => False) w5, d.1.cell? (ad7.add k) = some (.int .u8 y2.toNat) := fun d => BelM.cell d f7 id
      go_wp2_with fail
      refine wp_region_rel_tail 16 (by kernel_rfl) (fun _ => False) [45] (Fof [(45, IsRd [q2])]) (by kernel_rfl) (by kernel_rfl) (by kernel_rfl) (Stable.fof (fun p hp => by simp only [List.mem_cons, List.not_mem_nil, or_false] at hp; subst hp; exact IsRd.stable _)) (by simp) ?_
      simp only [List.take_succ_cons, List.take_zero, List.drop_succ_cons, List.drop_zero]
      (refine wpRel_seg 15 (by kernel_rfl) ?_; simp only [List.take_succ_cons, List.take_zero]; (repeat (go_big_quiet_step (fail))); refine wpQuiet_nil ?_; simp only [List.drop_succ_cons, List.drop_zero])
      refine wpRel_slot (d := 45) rfl rfl (by decide) (fun wq hbq hkq => ?_) ?_
      · refine relUpon_val (v := .slice (some ⟨wq.heap.size, 0, none⟩) 1 1) (w' := wq.alloc (.cells #[.int .u8 q2.toNat] 5)) (by simp [go_sem]) ((Upto.refl _).alloc _) ?_
        have h1 := Rd.one wq (q2.toNat : Int) (by omega) (by have := q2.toNat_lt; omega)
        simp only [Int.toNat_natCast, UInt8.ofNat_toNat] at h1
        exact ⟨_, 1, rfl, Nat.le_refl _, h1⟩
      rintro v ⟨wv, _, A45, c45, rfl, _, _⟩
      simp only [Act.put, List.setIfInBounds_toArray, List.set_cons_succ, List.set_cons_zero]
      refine wpRel_nil ?_
      intro w6 hu6 hf6
      have r45 := (IsRd.rd (hf6 45 (by decide))).1
      have hb6 := hu6.to_below
      have hs6 := hb6.size
      go_wp2_with (at_builtin; refine wpList_append_rd rfl (.tmp 30) (.tmp 45) rfl (w.heap.size + 1) u8 dd rfl (t8.below hb6) _ _ c45 [q2] rfl r45 (by have := HLD.out; simp; omega) (by omega) ?_; intro v8 w7 x8 hg7 at8)
      have x6 := (T6.out.below hb6).grown hg7 b68
      have x7 := (T7.out.below hb6).grown hg7 c78
      have hT7 : TapeAt w7 w.heap.size r.tail.tail := (hT5.below hb6).grown hg7 (fun g e => by have := (t8.ownBlock g e).1; omega)
      have hb7 : Below w.heap.size w w7 := below_grown (hb5.trans (hb6.mono hb5.size)) (t8.below hb6) hg7 (by omega) (by omega)
      have d68 := b68.right at8 (fun g e => by have := (T6.out.ownBlock g e).2; omega)
      have d86 := b86.left at8 (fun g e => by have := (T6.out.ownBlock g e).2; omega)
      have d78 := c78.right at8 (fun g e => by have := (T7.out.ownBlock g e).2; omega)
      have d87 := c87.left at8 (fun g e => by have := (T7.out.ownBlock g e).2; omega)
      go_roundw
      case rel =>
        refine ⟨k + 1, b ++ [y], cc ++ [y2], dd ++ [q2], _, by omega, by go_num, by have := HLB.out; simp; omega, by have := HLC.out; simp; omega, ?_, by have := HLD.out; simp; omega, x6, x7, x8, c67, d68, c76, d78, d86, d87, hT7, hb7⟩
        rw [List.take_succ_eq_append_getElem (by omega), xor3_snoc _ _ _ _ _ _ (by have := HLB.out; simp; omega) (by have := HLC.out; simp; omega), ← HDD.out, HQ2.out]
      case measure => simp [intOf]; omega
    · obtain rfl : k = l.length := by omega
      have HLB := HLB
      have hlB := HLB.out
      have hlC := HLC.out
      have hlD := HLD.out
      have hcrc : Crc.crc 0 dd = Crc.crc 0 l ^^^ Crc.crc 0 b ^^^ Crc.crc 0 cc := by
        rw [HDD.out, List.take_length]; exact crc_xor3 l b cc hlB.symm hlC.symm
      have HCR := Lib.hid hcrc
      clear hcrc hlt
      obtain ⟨A6, c6, rfl, r6, hc6, _⟩ := ho6.form
      obtain ⟨A7, c7, rfl, r7, hc7, _⟩ := ho7.form
      obtain ⟨A8, c8, rfl, r8, hc8, _⟩ := ho8.form
      have hm : l.length ≤ maxLen := by unfold maxLen; omega
      have hm6 : b.length ≤ maxLen := by omega
      have hm7 : cc.length ≤ maxLen := by omega
      have hm8 : dd.length ≤ maxLen := by omega
      have hl := h.below hb
      generalize b.length = nb at *
      generalize cc.length = nc at *
      generalize dd.length = nd at *
      subst hlB hlC hlD
      go_wp2_with fail
      refine (known_any _).mono ?_
      rintro e w2 ⟨rfl, hb2⟩
      have hl2 := hl.below hb2
      have r62 := r6.below hb2
      have r72 := r7.below hb2
      have hbb2 := hb.trans (hb2.mono hb.size)
      go_wp2_with fail
      refine (sum_any dd _ _ _ _ (r8.below hb2) hm8).mono ?_
      rintro e w3 ⟨rfl, hb3⟩
      have hl3 := hl2.below hb3
      have r63 := r62.below hb3
      have r73 := r72.below hb3
      have hbb3 := hbb2.trans (hb3.mono hbb2.size)
      go_wp2_with fail
      refine (sum_any l _ _ _ _ hl3 hm).mono ?_
      rintro e w4 ⟨rfl, hb4⟩
      have r64 := r63.below hb4
      have r74 := r73.below hb4
      have hbb4 := hbb3.trans (hb4.mono hbb3.size)
      go_wp2_with fail
      refine (sum_any b _ _ _ _ r64 hm6).mono ?_
      rintro e w5 ⟨rfl, hb5⟩
      have r75 := r74.below hb5
      have hbb5 := hbb4.trans (hb5.mono hbb4.size)
      have y1 := Crc.crc_lt 0 l
      have y2 := Crc.crc_lt 0 b
      have y3 := Crc.crc_lt 0 cc
      have z1 := b_xor _ _ y1 y2
      have z2 := b_xor _ _ (Crc.xor_lt y1 y2) y3
      have hq : ((Crc.crc 0 dd : Int) == ((Crc.crc 0 l ^^^ Crc.crc 0 b ^^^ Crc.crc 0 cc : Nat) : Int)) = true := by rw [HCR.out]; simp
      go_wp2_with fail
      refine (sum_any cc _ _ _ _ r75 hm7).mono ?_
      rintro e w6 ⟨rfl, hb6⟩
      have hbb6 := hbb5.trans (hb6.mono hbb5.size)
      go_wp2_with fail
      go_ret
      exact ⟨rfl, hbb6⟩

theorem crcLinear_law (A0 : Option Addr) (n0 c0 : Nat) (z0 : List Int) (A2 : Option Addr) (n2 c2 : Nat) (z2 : List Int) (w : World) (w0 : IsRow .u8 w A0 n0 c0 z0) (r0 : c0 * 1 ≤ 140737488351232) (w2 : IsRow .i64 w A2 n2 c2 z2) (r2 : c2 * 8 ≤ 140737488351232) :
    Calls Try.prog 5 #[.slice A0 n0 c0, .slice A2 n2 c2] w fun e w' => e = .returned (.bool true) ∧ Below w.heap.size w w' := by
  obtain ⟨l, _, hc, h⟩ := w0.bytes
  obtain ⟨z, hz1, hz2, hI, hz⟩ := w2.ints
  exact crcLinear_walk l A0 n0 c0 z A2 n2 c2 w h hc (by omega) hz hI (by omega) hz.lt
end Go.Proofs.Ytabgmodllifgjaa
