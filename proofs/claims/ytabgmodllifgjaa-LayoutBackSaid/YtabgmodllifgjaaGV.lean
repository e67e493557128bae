/- Texts of the second layer in one: Vb1 Vb2 Vb3 Vb4. -/
import Derived.Test.YtabgmodllifgjaaVa5
import Derived.Test.YtabgmodllifgjaaLe6
import Derived.Test.YtabgmodllifgjaaLe8
import Derived.Test.YtabgmodllifgjaaLay9
/- Numbers in groups of seven bits: what was written is read back; what was read is what would be written. Plain laws. --ext5 -/
namespace Go.Proofs.Ytabgmodllifgjaa
open Go.RowKit Go.Ab
set_option maxRecDepth 100000
set_option linter.unusedVariables false
set_option linter.unusedSimpArgs false

theorem ofNat_lo (x : Nat) (h : x < 256) : (UInt8.ofNat x).toNat = x := by rw [UInt8.toNat_ofNat']; omega
/-- The groups of a number: how many have another one behind them, what they make, and the last one. -/
theorem vbn_spec : ∀ (k v : Nat) (r : List UInt8) (f : Nat), v < 2 * 128 ^ k → k < f →
    cnt f (vbn k v ++ r) + 1 = (vbn k v).length ∧ gv (vbn k v) = v ∧ (1 ≤ v → 1 ≤ ((vbn k v).getD ((vbn k v).length - 1) 0).toNat) ∧ ((vbn k v).length = k + 1 → ((vbn k v).getD k 0).toNat < 2)
  | 0, v, r, f, h, hf => by
    have hv : v < 2 := by simpa using h
    obtain ⟨f, rfl⟩ : ∃ g, f = g + 1 := ⟨f - 1, by omega⟩
    have e := ofNat_lo v (by omega)
    refine ⟨?_, ?_, fun h1 => ?_, fun _ => ?_⟩
    · simp only [vbn, List.singleton_append, cnt, List.length_singleton]; rw [e, if_pos (by omega)]
    · simp only [vbn, gv]; rw [e]; omega
    · simp only [vbn, List.length_singleton]; show 1 ≤ (UInt8.ofNat v).toNat; omega
    · simp only [vbn]; show (UInt8.ofNat v).toNat < 2; omega
  | k + 1, v, r, f, h, hf => by
    obtain ⟨f, rfl⟩ : ∃ g, f = g + 1 := ⟨f - 1, by omega⟩
    rw [vbn]
    split
    · rename_i h1
      have e := ofNat_lo v (by omega)
      refine ⟨?_, ?_, fun h1 => ?_, fun h => by simp at h⟩
      · simp only [List.singleton_append, cnt, List.length_singleton]; rw [e, if_pos (by omega)]
      · simp only [gv]; rw [e]; omega
      · simp only [List.length_singleton]; show 1 ≤ (UInt8.ofNat v).toNat; omega
    · rename_i h1
      have e := ofNat_lo (v % 128 + 128) (by omega)
      have hv : v / 128 < 2 * 128 ^ k := by rw [Nat.pow_succ] at h; omega
      obtain ⟨g1, g2, g3, g4⟩ := vbn_spec k (v / 128) r f hv (by omega)
      have hl := vbn_len k (v / 128)
      have hg : ∀ j, ((UInt8.ofNat (v % 128 + 128) :: vbn k (v / 128)).getD (j + 1) 0) = (vbn k (v / 128)).getD j 0 := fun j => by simp
      refine ⟨?_, ?_, fun _ => ?_, fun h => ?_⟩
      · simp only [List.cons_append, cnt, List.length_cons]; rw [e, if_neg (by omega)]; omega
      · simp only [gv]; rw [e, g2]; omega
      · rw [List.length_cons, Nat.add_sub_cancel, show (vbn k (v / 128)).length = (vbn k (v / 128)).length - 1 + 1 by omega, hg]
        exact g3 (by omega)
      · rw [hg]; exact g4 (by simpa using h)
/-- What was written is read back. -/
theorem rdN_vb (p r : List UInt8) (v : Nat) (hv : v < 18446744073709551616) : rdN (p ++ vb v ++ r) (p.length : Int) = (v, (p.length : Int) + ((vb v).length : Int), 0) := by
  obtain ⟨g1, g2, g3, g4⟩ := vbn_spec 9 v r 10 (by rw [show (2 : Nat) * 128 ^ 9 = 18446744073709551616 from rfl]; exact hv) (by omega)
  have hl := vb_len v
  change cnt 10 (vb v ++ r) + 1 = (vb v).length at g1
  change gv (vb v) = v at g2
  change 1 ≤ v → 1 ≤ ((vb v).getD ((vb v).length - 1) 0).toNat at g3
  change (vb v).length = 10 → ((vb v).getD 9 0).toNat < 2 at g4
  have hd : (p ++ vb v ++ r).drop p.length = vb v ++ r := by rw [List.append_assoc, List.drop_left]
  have hlen : (p ++ vb v ++ r).length = p.length + (vb v).length + r.length := by simp only [List.length_append]
  have hz : (vb v).length ≠ 1 → 1 ≤ v := fun h => by
    rcases Nat.eq_zero_or_pos v with h0 | h0
    · subst h0; exact absurd rfl h
    · exact h0
  have hgd : (vb v ++ r).getD (cnt 10 (vb v ++ r)) 0 = (vb v).getD ((vb v).length - 1) 0 := by
    rw [show cnt 10 (vb v ++ r) = (vb v).length - 1 by omega]
    simp [List.getElem?_append_left (show (vb v).length - 1 < (vb v).length by omega)]
  have := rdN_ok (p ++ vb v ++ r) p.length (by omega) (by rw [hd]; omega) (by rw [hd, List.length_append]; omega) (by
    rw [hd, hgd]
    rintro (⟨h1, h2⟩ | ⟨h1, h2⟩)
    · have := g3 (hz (by omega)); omega
    · rw [show (vb v).length - 1 = 9 by omega] at h2; have := g4 (by omega); omega)
  rw [this, hd, show cnt 10 (vb v ++ r) + 1 = (vb v).length by omega, List.take_left, g2]
/-- Groups as they ought to be are the groups of their number. -/
theorem vbn_gv : ∀ (g : List UInt8) (k : Nat), g ≠ [] → g.length ≤ k + 1 → (∀ i, i + 1 < g.length → 128 ≤ (g.getD i 0).toNat) → (g.getD (g.length - 1) 0).toNat < 128 → (g.length = 1 ∨ 1 ≤ (g.getD (g.length - 1) 0).toNat) → vbn k (gv g) = g ∧ (2 ≤ g.length → 1 ≤ gv g) ∧ ((g.getD (g.length - 1) 0).toNat ≠ 0 → 1 ≤ gv g)
  | [], k, h, _, _, _, _ => absurd rfl h
  | [b], k, _, hk, h1, h2, h3 => by
    have hb : b.toNat < 128 := by simpa using h2
    have e : gv [b] = b.toNat := by simp only [gv]; omega
    rw [e, vbn_small k _ hb]
    have hb0 : ([b].getD ([b].length - 1) 0).toNat = b.toNat := rfl
    refine ⟨by rw [UInt8.ofNat_toNat], fun h => by simp at h, fun h => ?_⟩
    rw [hb0] at h
    omega
  | b :: c :: r, k, _, hk, h1, h2, h3 => by
    obtain ⟨k, rfl⟩ : ∃ j, k = j + 1 := ⟨k - 1, by simp at hk; omega⟩
    have hb : 128 ≤ b.toNat := by simpa using h1 0 (by simp)
    have hb2 := b.toNat_lt
    have hlast : (b :: c :: r).getD ((b :: c :: r).length - 1) 0 = (c :: r).getD ((c :: r).length - 1) 0 := by simp
    rw [hlast] at h2 h3 ⊢
    have h3' : 1 ≤ ((c :: r).getD ((c :: r).length - 1) 0).toNat := by
      rcases h3 with h | h
      · simp at h
      · exact h
    obtain ⟨g1, g2, g3⟩ := vbn_gv (c :: r) k (by simp) (by simpa using hk) (fun i hi => by simpa using h1 (i + 1) (by simpa using hi)) h2 (.inr h3')
    have hp := g3 (by omega)
    rw [gv, vbn, if_neg (by omega)]
    have e1 : (b.toNat % 128 + 128 * gv (c :: r)) % 128 + 128 = b.toNat := by omega
    have e2 : (b.toNat % 128 + 128 * gv (c :: r)) / 128 = gv (c :: r) := by omega
    rw [e1, e2, g1, UInt8.ofNat_toNat]
    exact ⟨rfl, fun _ => by omega, fun _ => by omega⟩
/-- What was read is what would be written. -/
theorem rdN_back (b : List UInt8) (n : Nat) (h : (rdN b (n : Int)).2.2 = 0) : ∃ r, b.drop n = vb (rdN b n).1 ++ r ∧ (rdN b n).2.1 = (n : Int) + ((vb (rdN b n).1).length : Int) ∧ n ≤ b.length := by
  by_cases hn : n ≤ b.length
  · obtain ⟨f1, f2, f3, f4⟩ := cnt_spec 10 (b.drop n)
    by_cases h1 : cnt 10 (b.drop n) = 10
    · rw [rdN_ten b n hn h1] at h; cases h
    by_cases h2 : cnt 10 (b.drop n) = (b.drop n).length
    · rw [rdN_end b n hn h1 h2] at h; cases h
    by_cases h3 : (0 < cnt 10 (b.drop n) ∧ ((b.drop n).getD (cnt 10 (b.drop n)) 0).toNat = 0) ∨ (cnt 10 (b.drop n) = 9 ∧ 1 < ((b.drop n).getD (cnt 10 (b.drop n)) 0).toNat)
    · rw [rdN_bad b n hn h1 h2 h3] at h; cases h
    rw [rdN_ok b n hn h1 h2 h3]
    dsimp only
    generalize b.drop n = R at *
    generalize hc : cnt 10 R = e at *
    have hgl : (R.take (e + 1)).length = e + 1 := by rw [List.length_take]; omega
    have hg : ∀ i, i ≤ e → (R.take (e + 1)).getD i 0 = R.getD i 0 := fun i hi => by simp [List.getElem?_take, show i < e + 1 by omega]
    have hl : (R.take (e + 1)).getD ((R.take (e + 1)).length - 1) 0 = R.getD e 0 := by rw [hgl, Nat.add_sub_cancel, hg e (Nat.le_refl _)]
    obtain ⟨g1, _, _⟩ := vbn_gv (R.take (e + 1)) 9 (fun h0 => by rw [h0] at hgl; simp at hgl) (by omega) (fun i hi => by rw [hg i (by omega)]; exact f3 i (by omega)) (by rw [hl]; exact f4 (by omega) (by omega)) (by rw [hl, hgl]; omega)
    have g1' : vb (gv (R.take (e + 1))) = R.take (e + 1) := g1
    rw [g1', hgl]
    exact ⟨R.drop (e + 1), (List.take_append_drop _ _).symm, rfl, hn⟩
  · rw [rdN_out b n (.inr (by omega))] at h; cases h
end Go.Proofs.Ytabgmodllifgjaa

/- Footers: what was written is read back; what was read is what would be written. Plain laws. --ext5 -/
namespace Go.Proofs.Ytabgmodllifgjaa
open Go.RowKit Go.Ab
set_option maxRecDepth 100000
set_option linter.unusedVariables false
set_option linter.unusedSimpArgs false

theorem rdS_vb (p r : List UInt8) (v : Int) (hv : I64 v) : rdS (p ++ vb (zz v) ++ r) (p.length : Int) = (v, (p.length : Int) + ((vb (zz v)).length : Int), 0) := by
  unfold rdS
  rw [rdN_vb p r (zz v) (zz_lt hv)]
  simp [uz_zz]
theorem rdS_back (b : List UInt8) (n : Nat) (h : (rdS b (n : Int)).2.2 = 0) : ∃ r, b.drop n = vb (zz (rdS b n).1) ++ r ∧ (rdS b n).2.1 = (n : Int) + ((vb (zz (rdS b n).1)).length : Int) ∧ n ≤ b.length := by
  unfold rdS at h ⊢
  split at h
  · rename_i h0
    obtain ⟨r, h1, h2, h3⟩ := rdN_back b n h0
    rw [if_pos h0]
    dsimp only
    rw [zz_uz]
    exact ⟨r, h1, h2, h3⟩
  · rename_i h0; exact absurd h h0
theorem rdEnt_enc (p r : List UInt8) (s : Ent) (h1 : 13 ≤ s.len ∧ s.len ≤ 4194317 ∧ 1 ≤ s.cnt ∧ s.cnt ≤ 4096) (h2 : I64 s.fst) (h3 : I64 s.lst) : rdEnt (p ++ encE s ++ r) (p.length : Int) = (s.at_ 0, (p.length : Int) + ((encE s).length : Int), 0) := by
  obtain ⟨n1, e1⟩ := Int.eq_ofNat_of_zero_le (show 0 ≤ s.len by omega)
  obtain ⟨n2, e2⟩ := Int.eq_ofNat_of_zero_le (show 0 ≤ s.cnt by omega)
  have t1 : s.len.toNat = n1 := by rw [e1]; rfl
  have t2 : s.cnt.toNat = n2 := by rw [e2]; rfl
  have b1 : p ++ encE s ++ r = p ++ vb n1 ++ (vb n2 ++ vb (zz s.fst) ++ vb (zz s.lst) ++ r) := by unfold encE; rw [t1, t2]; simp only [List.nil_append, List.append_assoc]
  have b2 : p ++ encE s ++ r = (p ++ vb n1) ++ vb n2 ++ (vb (zz s.fst) ++ vb (zz s.lst) ++ r) := by rw [b1]; simp only [List.append_assoc]
  have b3 : p ++ encE s ++ r = (p ++ vb n1 ++ vb n2) ++ vb (zz s.fst) ++ (vb (zz s.lst) ++ r) := by rw [b1]; simp only [List.append_assoc]
  have b4 : p ++ encE s ++ r = (p ++ vb n1 ++ vb n2 ++ vb (zz s.fst)) ++ vb (zz s.lst) ++ r := by rw [b1]; simp only [List.append_assoc]
  have la : ∀ (a c : List UInt8), ((a ++ c).length : Int) = (a.length : Int) + (c.length : Int) := fun a c => by rw [List.length_append]; push_cast; rfl
  have r1 : rdN (p ++ encE s ++ r) (p.length : Int) = (n1, ((p ++ vb n1).length : Int), 0) := by
    rw [b1, rdN_vb _ _ _ (by omega), List.length_append]; push_cast; rfl
  have r2 : rdN (p ++ encE s ++ r) ((p ++ vb n1).length : Int) = (n2, ((p ++ vb n1 ++ vb n2).length : Int), 0) := by
    rw [b2, rdN_vb _ _ _ (by omega), la (p ++ vb n1) (vb n2)]
  have r3 : rdS (p ++ encE s ++ r) ((p ++ vb n1 ++ vb n2).length : Int) = (s.fst, ((p ++ vb n1 ++ vb n2 ++ vb (zz s.fst)).length : Int), 0) := by
    rw [b3, rdS_vb _ _ _ h2, la (p ++ vb n1 ++ vb n2) (vb (zz s.fst))]
  have r4 : rdS (p ++ encE s ++ r) ((p ++ vb n1 ++ vb n2 ++ vb (zz s.fst)).length : Int) = (s.lst, ((p ++ encE s).length : Int), 0) := by
    have : (p ++ encE s).length = (p ++ vb n1 ++ vb n2 ++ vb (zz s.fst)).length + (vb (zz s.lst)).length := by unfold encE; rw [t1, t2]; simp only [List.length_append, List.nil_append]; omega
    rw [b4, rdS_vb _ _ _ h3, this]; push_cast; rfl
  have hr : rngB (n1 : Int) (n2 : Int) = true := by unfold rngB; rw [decide_eq_true_eq]; omega
  unfold rdEnt
  rw [r1]
  dsimp only
  rw [r2]
  dsimp only
  rw [r3]
  dsimp only
  rw [r4]
  dsimp only
  rw [if_neg (by simp), if_neg (by simp), if_neg (by simp), if_neg (by simp), if_pos hr, List.length_append]
  unfold Ent.at_
  rw [e1, e2]
  push_cast
  rfl
/-- Entries whose offsets follow one another. -/
def chE : Int → List Ent → Prop
  | _, [] => True
  | o, s :: r => s.off = o ∧ (13 ≤ s.len ∧ s.len ≤ 4194317 ∧ 1 ≤ s.cnt ∧ s.cnt ≤ 4096) ∧ I64 s.fst ∧ I64 s.lst ∧ chE (o + s.len) r
theorem dGo_enc : ∀ (l2 : List Ent) (p : List UInt8) (off : Int) (acc : List Ent), chE off l2 → dGo (p ++ l2.flatMap encE) l2.length (p.length : Int) off acc = (acc ++ l2, ((p ++ l2.flatMap encE).length : Int), 0)
  | [], p, off, acc, _ => by simp [dGo]
  | s :: r, p, off, acc, h => by
    obtain ⟨h1, h2, h3, h4, h5⟩ := h
    have hb : p ++ (s :: r).flatMap encE = (p ++ encE s) ++ r.flatMap encE := by rw [List.flatMap_cons, List.append_assoc]
    have he := rdEnt_enc p (r.flatMap encE) s h2 h3 h4
    have hat : (s.at_ 0).at_ off = s := by subst h1; rfl
    rw [List.length_cons, hb, dGo, he]
    dsimp only
    rw [if_neg (by simp), hat]
    have hl : (p.length : Int) + ((encE s).length : Int) = ((p ++ encE s).length : Int) := by rw [List.length_append]; push_cast; rfl
    have hle : (s.at_ 0).len = s.len := rfl
    rw [hl, hle, dGo_enc r (p ++ encE s) (off + s.len) (acc ++ [s]) h5]
    simp
theorem chE_drop (l : List Ent) (hI : EntsI l) (ho : ∀ k, k < l.length → okE l k) : ∀ (j k : Nat), k + j = l.length → chE (endR l k) (l.drop k)
  | 0, k, h => by rw [List.drop_eq_nil_of_le (by omega)]; trivial
  | j + 1, k, h => by
    have hk : k < l.length := by omega
    have hg : l.getD k e0 = l[k] := by simp [hk]
    rw [List.drop_eq_getElem_cons hk, ← hg]
    obtain ⟨o1, o2, o3, o4, o5⟩ := ho k hk
    obtain ⟨i1, i2, i3, i4, i5⟩ := hI.get k
    refine ⟨o1, o2, i4, i5, ?_⟩
    have := chE_drop l hI ho j (k + 1) (by omega)
    rw [endR_succ, o1] at this
    exact this
/-- What was written is read back. -/
theorem decF_enc (l : List Ent) (hI : EntsI l) (hv : vE l = true) : decF (encFt l) = (l, 0) := by
  obtain ⟨h1, h2⟩ := vE_of hv
  have hb : encFt l = ([] ++ vb l.length) ++ l.flatMap encE := by unfold encFt encK; rw [List.take_length]
  have r0 : rdN (encFt l) 0 = (l.length, (([] ++ vb l.length : List UInt8).length : Int), 0) := by
    have := rdN_vb [] (l.flatMap encE) l.length (by omega)
    rw [hb]
    simpa using this
  have hc : chE 21 l := by
    have := chE_drop l hI h2 l.length 0 (by omega)
    simpa [endR] using this
  have hd := dGo_enc l ([] ++ vb l.length) 21 [] hc
  rw [← hb] at hd
  unfold decF
  rw [r0]
  dsimp only
  rw [if_neg (by simp), if_neg (by omega), hd, List.nil_append, decQ_ok _ _ _ rfl hv]
end Go.Proofs.Ytabgmodllifgjaa

/- Footers: what was read is what would be written. Plain laws. --ext5 -/
namespace Go.Proofs.Ytabgmodllifgjaa
open Go.RowKit Go.Ab
set_option maxRecDepth 100000
set_option linter.unusedVariables false
set_option linter.unusedSimpArgs false

theorem drop_app {b : List UInt8} {n : Nat} {x r : List UInt8} (h : b.drop n = x ++ r) : b.drop (n + x.length) = r := by
  rw [← List.drop_drop, h, List.drop_left]
theorem rdEnt_back (b : List UInt8) (n : Nat) (h : (rdEnt b (n : Int)).2.2 = 0) : ∃ r, b.drop n = encE (rdEnt b n).1 ++ r ∧ (rdEnt b n).2.1 = (n : Int) + ((encE (rdEnt b n).1).length : Int) := by
  unfold rdEnt at h ⊢
  split at h
  · rename_i h0; exact absurd h h0
  rename_i h1
  split at h
  · rename_i h0; exact absurd h h0
  rename_i h2
  split at h
  · rename_i h0; exact absurd h h0
  rename_i h3
  split at h
  · rename_i h0; exact absurd h h0
  rename_i h4
  split at h
  · rename_i h5
    rw [if_neg h1, if_neg h2, if_neg h3, if_neg h4, if_pos h5]
    obtain ⟨r1, a1, c1, d1⟩ := rdN_back b n (by omega)
    rw [c1] at h2 h3 h4 h5 ⊢
    have a1' := drop_app a1
    rw [show (n : Int) + ((vb (rdN b n).1).length : Int) = ((n + (vb (rdN b n).1).length : Nat) : Int) by push_cast; rfl] at h2 h3 h4 h5 ⊢
    generalize hm1 : n + (vb (rdN b n).1).length = m1 at *
    obtain ⟨r2, a2, c2, d2⟩ := rdN_back b m1 (by omega)
    rw [c2] at h3 h4 ⊢
    have a2' := drop_app a2
    rw [show (m1 : Int) + ((vb (rdN b m1).1).length : Int) = ((m1 + (vb (rdN b m1).1).length : Nat) : Int) by push_cast; rfl] at h3 h4 ⊢
    generalize hm2 : m1 + (vb (rdN b m1).1).length = m2 at *
    obtain ⟨r3, a3, c3, d3⟩ := rdS_back b m2 (by omega)
    rw [c3] at h4 ⊢
    have a3' := drop_app a3
    rw [show (m2 : Int) + ((vb (zz (rdS b m2).1)).length : Int) = ((m2 + (vb (zz (rdS b m2).1)).length : Nat) : Int) by push_cast; rfl] at h4 ⊢
    generalize hm3 : m2 + (vb (zz (rdS b m2).1)).length = m3 at *
    obtain ⟨r4, a4, c4, d4⟩ := rdS_back b m3 (by omega)
    rw [c4]
    have e1 : r1 = b.drop m1 := a1'.symm
    have e2 : r2 = b.drop m2 := a2'.symm
    have e3 : r3 = b.drop m3 := a3'.symm
    refine ⟨r4, ?_, ?_⟩
    · unfold encE
      dsimp only
      rw [a1, e1, a2, e2, a3, e3, a4, Int.toNat_natCast, Int.toNat_natCast]
      simp only [List.nil_append, List.append_assoc]
    · unfold encE
      dsimp only
      rw [Int.toNat_natCast, Int.toNat_natCast]
      simp only [List.nil_append, List.length_append]
      push_cast
      omega
  · cases h
theorem encE_at (s : Ent) (o : Int) : encE (s.at_ o) = encE s := rfl
theorem dGo_back (b : List UInt8) : ∀ (i n : Nat) (off : Int) (acc : List Ent), (dGo b i (n : Int) off acc).2.2 = 0 → ∃ l2 r, (dGo b i (n : Int) off acc).1 = acc ++ l2 ∧ l2.length = i ∧ b.drop n = l2.flatMap encE ++ r ∧ (dGo b i (n : Int) off acc).2.1 = (n : Int) + ((l2.flatMap encE).length : Int)
  | 0, n, off, acc, h => ⟨[], b.drop n, by simp [dGo], rfl, by simp, by simp [dGo]⟩
  | i + 1, n, off, acc, h => by
    rw [dGo] at h ⊢
    split at h
    · rename_i h0; exact absurd h h0
    rename_i h0
    rw [if_neg h0]
    obtain ⟨r1, a1, c1⟩ := rdEnt_back b n (by omega)
    have a1' := drop_app a1
    rw [c1] at h ⊢
    rw [show (n : Int) + ((encE (rdEnt b n).1).length : Int) = ((n + (encE (rdEnt b n).1).length : Nat) : Int) by push_cast; rfl] at h ⊢
    obtain ⟨l2, r, g1, g2, g3, g4⟩ := dGo_back b i _ _ _ h
    refine ⟨(rdEnt b n).1.at_ off :: l2, r, ?_, by rw [List.length_cons, g2], ?_, ?_⟩
    · rw [g1]; simp
    · rw [a1, ← a1', g3, List.flatMap_cons, encE_at, List.append_assoc]
    · rw [g4, List.flatMap_cons, encE_at, List.length_append]; push_cast; omega
/-- What was read is what would be written. -/
theorem decF_back (b : List UInt8) (h : (decF b).2 = 0) : encFt (decF b).1 = b := by
  unfold decF at h ⊢
  split at h
  · rename_i h0; exact absurd h h0
  rename_i h1
  split at h
  · cases h
  rename_i h2
  rw [if_neg h1, if_neg h2]
  have hz : ((0 : Nat) : Int) = 0 := rfl
  have hb0 := rdN_back b 0
  rw [hz] at hb0
  obtain ⟨r1, a1, c1, d1⟩ := hb0 (by omega)
  have c1' : (rdN b 0).2.1 = ((vb (rdN b 0).1).length : Int) := by rw [c1]; omega
  have a0 : b = vb (rdN b 0).1 ++ r1 := by simpa using a1
  rw [c1'] at h ⊢
  have hd : b.drop (vb (rdN b 0).1).length = r1 := by
    have := drop_app a1
    rwa [Nat.zero_add] at this
  unfold decQ at h ⊢
  split at h
  · rename_i h0; exact absurd h h0
  rename_i h3
  obtain ⟨l2, r, g1, g2, g3, g4⟩ := dGo_back b (rdN b 0).1 (vb (rdN b 0).1).length 21 [] (by omega)
  split at h
  · cases h
  rename_i h4
  split at h
  · cases h
  rename_i h5
  rw [if_neg h3, if_neg h4, if_neg h5, g1, List.nil_append]
  have hat := Decidable.not_not.1 h4
  rw [g4] at hat
  rw [hd] at g3
  have hlen : b.length = (vb (rdN b 0).1).length + r1.length := by
    have := congrArg List.length a0
    rwa [List.length_append] at this
  have hr : r = [] := List.eq_nil_of_length_eq_zero (by have := congrArg List.length g3; rw [List.length_append] at this; omega)
  subst hr
  rw [List.append_nil] at g3
  unfold encFt encK
  rw [List.take_length, g2, ← g3, List.nil_append]
  exact a0.symm
end Go.Proofs.Ytabgmodllifgjaa

/- Chapter 28: headers and trailers are read back; what entries that are read are. Plain laws. --ext5 -/
namespace Go.Proofs.Ytabgmodllifgjaa
open Go.RowKit Go.Ab
set_option maxRecDepth 100000
set_option linter.unusedVariables false
set_option linter.unusedSimpArgs false

theorem header_back (c t k : Nat) (h : vcfg c t k = 0) : decE (header c t k) = 0 ∧ decC (header c t k) = c ∧ decX (header c t k) = t ∧ decK (header c t k) = k := by
  have h0 := decE_header c t k h
  obtain ⟨g1, g2, g3, g4, g5, g6⟩ := vcfg_ok h
  have e1 : hC (header c t k) = c := by
    unfold hC
    have : (header c t k).getD 4 0 = UInt8.ofNat c := rfl
    rw [this]
    simp
    omega
  have e2 : hT (header c t k) = t := by
    unfold hT
    have : ((header c t k).drop 5).take 8 = le t 8 := by
      unfold header hdrB
      simp only [List.append_assoc]
      rw [dl (by simp [hdrA, tscMark])]
      exact tl (le_length _ _)
    rw [this, val_le 8 t (by have : (256 : Nat) ^ 8 = 18446744073709551616 := by decide
                             omega)]
    exact IntWalk.i64_in _ (by omega)
  have e3 : hK (header c t k) = k := by
    unfold hK
    have : ((header c t k).drop 13).take 4 = le k 4 := by
      unfold header hdrB
      have hl : (hdrA c ++ le t 8).length = 13 := by simp [hdrA, tscMark, le_length]
      rw [List.append_assoc, dl hl]
      exact tl (le_length _ _)
    rw [this, val_le 4 k (by have : (256 : Nat) ^ 4 = 4294967296 := by decide
                             omega)]
  unfold decC decX decK
  rw [if_pos h0, if_pos h0, if_pos h0]
  exact ⟨h0, e1, e2, e3⟩
theorem trailer_back (o : Nat) (h1 : 21 ≤ o) (h2 : o ≤ 1073741824) : decT (trailer o) = (o, 0) := by
  have e : val (((trailer o).drop 4).take 8) = o := by
    have : ((trailer o).drop 4).take 8 = le o 8 := by
      unfold trailer
      rw [List.append_assoc, dl (show endMark.length = 4 from rfl)]
      exact tl (le_length _ _)
    rw [this, val_le 8 o (by have : (256 : Nat) ^ 8 = 18446744073709551616 := by decide
                             omega)]
  unfold decT
  rw [if_pos (mk_trailer o), e]
  simp only
  rw [if_pos ⟨h1, h2⟩]
theorem dGo_ints (b : List UInt8) (n : Nat) (hn : n ≤ 65536) : ∀ (i : Nat) (a off : Int) (acc : List Ent), DI b n i a off acc → (dGo b i a off acc).2.2 = 0 → EntsI (dGo b i a off acc).1
  | 0, a, off, acc, h, _ => by rw [dGo]; exact h.ints
  | i + 1, a, off, acc, h, hz => by
    rw [dGo] at hz ⊢
    split at hz
    · rename_i h0; exact absurd hz h0
    rename_i h0
    rw [if_neg h0]
    exact dGo_ints b n hn i _ _ _ (h.step hn (by omega)) hz
theorem decF_ints (b : List UInt8) (h : (decF b).2 = 0) : EntsI (decF b).1 := by
  unfold decF at h ⊢
  split at h
  · rename_i h0; exact absurd h h0
  rename_i h1
  split at h
  · cases h
  rename_i h2
  rw [if_neg h1, if_neg h2]
  unfold decQ at h ⊢
  split at h
  · rename_i h0; exact absurd h h0
  rename_i h3
  split at h
  · cases h
  rename_i h4
  split at h
  · cases h
  rename_i h5
  rw [if_neg h3, if_neg h4, if_neg h5]
  obtain ⟨p1, p2, p3, p4⟩ := rdN_facts b 0
  have g := p4 (by omega)
  exact dGo_ints b _ (by omega) _ _ _ _ ⟨Nat.le_refl _, by simp, by omega, g.2.2, by omega, by simp, rfl, fun s h => by simp at h⟩ (by omega)
theorem vals_ents {T : Nat} (l : List Ent) : (AV.fr T 5 (ents l)).vals := by
  intro e he c hc
  unfold ents at he
  rw [List.mem_map] at he
  obtain ⟨s, _, rfl⟩ := he
  simp only [Ent.row, List.mem_cons, List.not_mem_nil, or_false] at hc
  rcases hc with rfl | rfl | rfl | rfl | rfl <;> exact ⟨_, rfl⟩
end Go.Proofs.Ytabgmodllifgjaa
