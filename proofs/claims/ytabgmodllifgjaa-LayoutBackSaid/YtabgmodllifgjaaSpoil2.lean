/- The walk of (*Tape).Spoiled, exactly. Conditions: a length below 2^47. -/
import Derived.Test.YtabgmodllifgjaaTape2
import Derived.StillTailTactics
import Derived.Deep.RegionWith
namespace Go.Proofs.Ytabgmodllifgjaa
open Go.RowKit
set_option maxRecDepth 100000
set_option linter.unusedVariables false

/-- What Spoiled makes of the bytes, k numbers of the tape being taken; how many are taken then. -/
def spoilL (l : List UInt8) (r : List Int) (k : Nat) : List UInt8 :=
  if nx r (adv r k) 6 = 0 then l.take (nx r (adv r (adv r k)) ((l.length : Int) + 1)).toNat
  else if nx r (adv r k) 6 = 1 then l ++ [UInt8.ofNat (nx r (adv r (adv r k)) 256).toNat]
  else if l.length = 0 then l
  else if nx r (adv r k) 6 = 2 then l.take (nx r k l.length).toNat ++ l.drop ((nx r k l.length).toNat + 1)
  else l.set (nx r k l.length).toNat (UInt8.ofNat (bits .xor .u8 ((l.getD (nx r k l.length).toNat 0).toNat : Int) (IntKind.u8.wrap (2 ^ min (IntKind.u64.wrap (nx r (adv r (adv r k)) 8)).toNat 8))).toNat)
def spoilK (l : List UInt8) (r : List Int) (k : Nat) : Nat :=
  if nx r (adv r k) 6 = 0 ∨ nx r (adv r k) 6 = 1 then adv r (adv r (adv r k)) else if l.length = 0 ∨ nx r (adv r k) 6 = 2 then adv r (adv r k) else adv r (adv r (adv r k))
theorem spoilL_len (l : List UInt8) (r : List Int) (k : Nat) : (spoilL l r k).length ≤ l.length + 1 := by
  unfold spoilL
  split
  · rw [List.length_take]; omega
  split
  · simp
  split
  · omega
  split
  · rw [List.length_append, List.length_take, List.length_drop]; omega
  · rw [List.length_set]; omega
def SpoilX (TA : Option Addr) (tn tc : Nat) (l : List UInt8) (r : List Int) (tk p : Nat) (w : World) (e : Ending) (w' : World) : Prop :=
  ∃ v, e = .returned v ∧ Own w' w.heap.size v (spoilL l r tk) ∧ w'.heap[p]? = some (.cells #[.slice TA tn tc, .int .i64 (spoilK l r tk : Nat)] 110 (0, 0)) ∧ w.grownBy w' (some p)
theorem nx_zero (r : List Int) (k : Nat) : nx r k 0 = 0 := by simp [nx, modz]
section
variable {A : Option Addr} {n c : Nat} {r : List Int} {w w' : World} {p k : Nat}
theorem TapeC.lt (h : TapeC A n c r w p k) : p < w.heap.size := by
  rcases Nat.lt_or_ge p w.heap.size with h1 | h1
  · exact h1
  · have := h.at_; rw [Array.getElem?_eq_none h1] at this; cases this
theorem TapeC.below (h : TapeC A n c r w p k) (hb : Below w.heap.size w w') : TapeC A n c r w' p k := ⟨(hb.block p h.lt).trans h.at_, h.rd.below hb, h.ints, h.le, h.ne⟩
theorem TapeC.drew (h : TapeC A n c r w p k) : TapeC A n c r w.drew p k := ⟨h.at_, h.rd, h.ints, h.le, h.ne⟩
theorem at_lt {o : Obj} (h : w.heap[p]? = some o) : p < w.heap.size := by
  rcases Nat.lt_or_ge p w.heap.size with h1 | h1
  · exact h1
  · rw [Array.getElem?_eq_none h1] at h; cases h
theorem at_grown {o : Obj} {row : Option Nat} (h : w.heap[p]? = some o) (hg : w.grownBy w' row) (hne : some p ≠ row) : w'.heap[p]? = some o := (hg.block p (at_lt h) hne).trans h
theorem at_alloc {o : Obj} (h : w.heap[p]? = some o) (o' : Obj) : (w.alloc o').heap[p]? = some o := (((Below.refl w.heap.size w).alloc (Nat.le_refl _) o').block p (at_lt h)).trans h
theorem at_set {o : Obj} (h : w.heap[p]? = some o) {g j : Nat} {u : Value} (hne : p ≠ g) : (w.setCell ⟨g, j, none⟩ u).heap[p]? = some o := (Below.heap_setCell w ⟨g, j, none⟩ u p hne).trans h
theorem own_ne {base : Nat} {v : Value} {l : List UInt8} (h : Own w base v l) (hp : p < base) : some p ≠ v.ownBlock := fun e => by have := (h.ownBlock p e.symm).1; omega
theorem Own.take0 {base c : Nat} {A : Option Addr} {l : List UInt8} (h : Own w base (.slice A l.length c) l) (k : Nat) (hk : k ≤ l.length) : Own w base (.slice A k c) (l.take k) := by
  by_cases hA : A = none
  · subst hA
    have h0 : l.length = 0 := by
      rcases Nat.eq_zero_or_pos l.length with h0 | h0
      · exact h0
      · obtain ⟨g, e, _⟩ := h.head h0; cases e
    have : k = l.length := by omega
    subst this
    rw [List.take_length]; exact h
  · exact h.take k hk hA
end

set_option maxHeartbeats 1000000 in
theorem spoiled_ex {TA : Option Addr} {tn tc : Nat} {r : List Int} {tk : Nat} (p : Nat) (l : List UInt8) (A : Option Addr) (n c : Nat) (w : World) (hT : TapeC TA tn tc r w p tk) (h : Rd w 1 A n (bv l)) (hl : l.length ≤ 140737488351300) :
    Calls Try.prog 31 #[.pointer (some ⟨p, 0, none⟩), .slice A n c] w (SpoilX TA tn tc l r tk p w) := by
  have hn := h.len
  subst hn
  have hp := hT.lt
  go_enter Try.func31, Try.ntmps31
  go_wp2_with (at_builtin; refine wpList_append_rd rfl (.tmp 6) (.tmp 7) rfl w.heap.size _ [] rfl (Own.empty w) A l.length c l rfl (h.alloc _) (by simp; omega) (by simp) ?_; intro v1 w1 how1 hg1 hat1; obtain ⟨A1, c1, rfl, hR1, hc1, hm1⟩ := how1.form)
  have hb1 : Below w.heap.size w w1 := below_grown ((Below.refl _ _).alloc (Nat.le_refl _) _) (Own.empty w) hg1 (Nat.le_refl _) (by simp)
  have hT1 := hT.below hb1
  simp only [List.nil_append] at how1 hR1 hc1
  clear hg1 hat1
  have hB1 := Lib.hid hb1
  clear hb1
  go_wp2_with fail
  refine (next_ex p _ (by omega) _ hT1).mono ?_
  rintro e w2 ⟨rfl, hT2, hg2⟩
  have how2 := how1.tape hg2 hp
  have hat0 : (l.length : Int) = 0 → nx r tk (l.length : Int) = 0 := fun e => by rw [e]; exact nx_zero r tk
  have hat1 : 0 < l.length → 0 ≤ nx r tk (l.length : Int) ∧ nx r tk (l.length : Int) < l.length := fun e => nx_range r tk (by omega)
  have HA0 := Lib.hid hat0
  have HA1 := Lib.hid hat1
  clear hat0 hat1
  generalize ht : nx r tk (l.length : Int) = t at *
  have HT := Lib.hid ht
  clear ht
  go_wp2_with fail
  refine (next_ex p 6 (by omega) _ hT2).mono ?_
  rintro e w3 ⟨rfl, hT3, hg3⟩
  have how3 := how2.tape hg3 hp
  have hs := nx_range r (adv r tk) (show (1 : Int) ≤ 6 by omega)
  generalize hs6 : nx r (adv r tk) 6 = s at *
  have HS := Lib.hid hs6
  clear hs6
  have hg13 : w1.grownBy w3 (some p) := hg2.trans hg3
  have hsz3 := Nat.le_trans hB1.out.size hg13.size
  have HK : KeepTo w.heap.size p w w3 := ((((KeepTo.refl w).below hB1.out).tapeStep hg2 hB1.out.size).tapeStep hg3 (Nat.le_trans hB1.out.size hg2.size))
  have hfin : ∀ (w4 : World) (v : Value), KeepTo w.heap.size p w3 w4 → Own w4 w.heap.size v (spoilL l r tk) → w4.heap[p]? = some (.cells #[.slice TA tn tc, .int .i64 (spoilK l r tk : Nat)] 110 (0, 0)) → SpoilX TA tn tc l r tk p w (.returned v) w4 := fun w4 v hg ho ha =>
    ⟨v, rfl, ho, ha, (HK.trans hg).grownBy⟩
  have HF := Lib.hid hfin
  clear hfin
  obtain ⟨A3, c3, e3, hR3, hc3, _⟩ := how3.form
  injection e3 with e31 _ e33
  subst e31 e33
  rcases (show s = 0 ∨ s = 1 ∨ s = 2 ∨ (s ≠ 0 ∧ s ≠ 1 ∧ s ≠ 2) by omega) with rfl | rfl | rfl | ⟨s0, s1, s2⟩
  · go_wp2_with fail
    refine (next_ex p _ (by omega) _ hT3).mono ?_
    rintro e w4 ⟨rfl, hT4, hg4⟩
    have hk := nx_range r (adv r (adv r tk)) (show (1 : Int) ≤ (l.length : Int) + 1 by omega)
    obtain ⟨k, hkk⟩ := Int.eq_ofNat_of_zero_le hk.1
    rw [hkk] at hk ⊢
    have how4 := how3.tape hg4 hp
    obtain ⟨A4, c4, e4, hR4, hc4, _⟩ := how4.form
    injection e4 with e41 _ e43
    subst e41 e43
    go_wp2
    go_ret
    refine HF.out w4 _ ((KeepTo.refl _).tapeStep hg4 hsz3) ?_ ?_
    · have e : spoilL l r tk = l.take k := by unfold spoilL; rw [HS.out, if_pos rfl, hkk]; rfl
      rw [e]
      exact how4.take0 k (by omega)
    · have e : spoilK l r tk = adv r (adv r (adv r tk)) := by unfold spoilK; rw [HS.out, if_pos (.inl rfl)]
      rw [e]; exact hT4.at_
  · go_wp2_with fail
    refine (next_ex p _ (by omega) _ hT3).mono ?_
    rintro e w4 ⟨rfl, hT4, hg4⟩
    have hx := nx_range r (adv r (adv r tk)) (show (1 : Int) ≤ 256 by omega)
    generalize hx256 : nx r (adv r (adv r tk)) 256 = x at *
    have HX := Lib.hid hx256
    clear hx256
    have how4 := how3.tape hg4 hp
    go_wp2_with (at_builtin; refine wpList_append_rd rfl (.tmp 39) (.tmp 43) rfl w.heap.size _ l rfl (how4.alloc _) _ 1 1 _ rfl (Rd.one w4 _ (by omega) (by omega)) (by omega) (by have := hg4.size; simp; omega) ?_; intro v5 w5 how5 hg5 hat5)
    go_ret
    have hsz4 := hg4.size
    refine HF.out w5 _ ((((KeepTo.refl _).tapeStep hg4 hsz3).alloc _ (by omega)).grown (how4.alloc _) hg5 (Nat.le_refl _) (by simp; omega)) ?_ ?_
    · have e : spoilL l r tk = l ++ [UInt8.ofNat x.toNat] := by unfold spoilL; rw [HS.out, if_neg (by decide), if_pos rfl, HX.out]
      rw [e]; exact how5
    · have e : spoilK l r tk = adv r (adv r (adv r tk)) := by unfold spoilK; rw [HS.out, if_pos (.inr rfl)]
      rw [e]; exact at_grown (at_alloc hT4.at_ _) hg5 (own_ne how4 hp)
  · by_cases h0 : 0 < l.length
    · have h0' : (0 : Int) < (l.length : Int) := by omega
      obtain ⟨ht0, htl⟩ := HA1.out h0
      obtain ⟨k, rfl⟩ := Int.eq_ofNat_of_zero_le ht0
      have hA1 : A1 ≠ none := by rintro rfl; obtain ⟨ad, e, _⟩ := hR3.2 h0; cases e
      have ht := how3.take k (by omega) hA1
      have hnew : Rd w3 1 (if c1 = k + 1 then A1 else Option.map (fun x => x.add (k + 1)) A1) (l.length - (k + 1)) (bv (l.drop (k + 1))) := hR3.sufIf (k + 1) c1 (by omega) hc3
      have hk1 : ((k : Int) + 1) ≤ (l.length : Int) := by omega
      have hk2 : (0 : Int) ≤ (k : Int) + 1 := by omega
      have hk3 : IntKind.i64.wrap ((k : Int) + 1) = (k : Int) + 1 := IntWalk.i64_in _ (by omega)
      have hk4 : ((k : Int) + 1).toNat = k + 1 := by omega
      have hk5 : (k : Int) ≤ (c1 : Int) := by omega
      have hk6 : k ≤ c1 := by omega
      have hk7 : k + 1 ≤ l.length := by omega
      have hk8 : k < l.length := by omega
      have hk9 : ¬ c1 = k := by omega
      go_wp2_with fail
      go_still_tail 7, (by kernel_rfl)
      change wpList _ _ _ _ _ w3.drew
      have ht' : Own w3.drew w.heap.size (.slice A1 k c1) (l.take k) := ht
      have hnew' : Rd w3.drew 1 (if c1 = k + 1 then A1 else Option.map (fun x => x.add (k + 1)) A1) (l.length - (k + 1)) (bv (l.drop (k + 1))) := hnew
      refine wpList_append_rd rfl (.tmp 52) (.tmp 56) rfl w.heap.size _ (l.take k) rfl ht' _ (l.length - (k + 1)) _ (l.drop (k + 1)) rfl hnew' (by rw [List.length_take]; omega) hsz3 ?_
      intro v5 w5 how5 hg5 _
      have hend : SpoilX TA tn tc l r tk p w (.returned v5) w5 := by
        refine HF.out w5 _ (((KeepTo.refl w3).drew).grown ht' hg5 (Nat.le_refl _) hsz3) ?_ ?_
        · have e : spoilL l r tk = l.take k ++ l.drop (k + 1) := by unfold spoilL; rw [HS.out, if_neg (by decide), if_neg (by decide), if_neg (by omega), if_pos rfl, HT.out]; rfl
          rw [e]; exact how5
        · have e : spoilK l r tk = adv r (adv r tk) := by unfold spoilK; rw [HS.out, if_neg (by decide), if_pos (.inr rfl)]
          rw [e]; exact at_grown hT3.drew.at_ hg5 (own_ne ht' hp)
      have HE := Lib.hid hend
      clear hend
      go_wp2
      all_goals (go_ret; exact HE.out)
    · have h0' : ¬ (0 : Int) < (l.length : Int) := by omega
      go_wp2
      go_ret
      refine HF.out w3 _ (KeepTo.refl _) ?_ ?_
      · have e : spoilL l r tk = l := by unfold spoilL; rw [HS.out, if_neg (by omega), if_neg (by omega), if_pos (by omega)]
        rw [e]; exact how3
      · have e : spoilK l r tk = adv r (adv r tk) := by unfold spoilK; rw [HS.out, if_neg (by omega), if_pos (.inl (by omega))]
        rw [e]; exact hT3.at_
  · by_cases h0 : 0 < l.length
    · have h0' : (0 : Int) < (l.length : Int) := by omega
      obtain ⟨ht0, htl⟩ := HA1.out h0
      obtain ⟨k, rfl⟩ := Int.eq_ofNat_of_zero_le ht0
      obtain ⟨g, rfl, hbg, _⟩ := how3.head h0
      have hkl : k < l.length := by omega
      obtain ⟨hc, hf⟩ := how3.byteAt k hkl
      go_wp2_with fail
      go_region_with (go_at_call 29; refine (next_ex p 8 (by omega) w3.drew hT3.drew).mono ?_; rintro e w4 ⟨rfl, hT4, hg4⟩; have hx := nx_range r (adv r (adv r tk)) (show (1 : Int) ≤ 8 by omega); have how4 := Own.tape (w := w3.drew) how3 hg4 hp; have hc4 := (how4.byteAt k hkl).1; have hf4 := (how4.byteAt k hkl).2)
      all_goals
        have hend : ∀ a b, a = ((l.getD k 0).toNat : Int) → b = IntKind.u8.wrap (2 ^ min (IntKind.u64.wrap (nx r (adv r (adv r tk)) 8)).toNat 8) → SpoilX TA tn tc l r tk p w (.returned (.slice (some ⟨g, 0, none⟩) l.length c1)) (w4.setCell ⟨g, k, none⟩ (.int .u8 (bits .xor .u8 a b))) := fun a b ha hb => by
          subst ha
          obtain ⟨y, hy⟩ := byte_of_bits .xor ((l.getD k 0).toNat : Int) b
          have hy2 : y = UInt8.ofNat (bits .xor .u8 ((l.getD k 0).toNat : Int) b).toNat := by rw [hy]; simp
          rw [hy]
          refine HF.out _ _ ((((KeepTo.refl w3).drew).tapeStep hg4 hsz3).setCell _ _ hbg) ?_ ?_
          · have e : spoilL l r tk = l.set k y := by unfold spoilL; rw [HS.out, if_neg s0, if_neg s1, if_neg (by omega), if_neg s2, HT.out, hy2, hb]; rfl
            rw [e]; exact how4.store k y
          · have e : spoilK l r tk = adv r (adv r (adv r tk)) := by unfold spoilK; rw [HS.out, if_neg (by omega), if_neg (by omega)]
            rw [e]; exact at_set hT4.at_ (by omega)
        have HE := Lib.hid hend
        clear hend
        go_wp2
        go_ret
        exact HE.out _ _ (by simp [hkl]) rfl
    · have h0' : ¬ (0 : Int) < (l.length : Int) := by omega
      go_wp2
      go_ret
      refine HF.out w3 _ (KeepTo.refl _) ?_ ?_
      · have e : spoilL l r tk = l := by unfold spoilL; rw [HS.out, if_neg (by omega), if_neg (by omega), if_pos (by omega)]
        rw [e]; exact how3
      · have e : spoilK l r tk = adv r (adv r tk) := by unfold spoilK; rw [HS.out, if_neg (by omega), if_pos (.inl (by omega))]
        rw [e]; exact hT3.at_
end Go.Proofs.Ytabgmodllifgjaa
