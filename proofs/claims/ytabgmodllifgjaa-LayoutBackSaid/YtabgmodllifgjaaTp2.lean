/- Spoiled of an own slice that stays own. Conditions: lengths below 2^47. -/
import Derived.Test.YtabgmodllifgjaaTp
namespace Go.Proofs.Ytabgmodllifgjaa
open Go.RowKit Go.Ab
set_option maxRecDepth 100000
set_option linter.unusedVariables false
set_option linter.unusedSimpArgs false

theorem spoiled_g (b0 : Blk) (l : List UInt8) (r : List Int) (k : Nat) (hr : Ints r) (hn : r.length ≤ 140737488351232) (hl : l.length ≤ 140737488351300) (hb0 : b0.ids = []) (hread : ∀ Z w M, held Z M w 1 b0 → RV.rep (fun _ => False) w (.sl 1 (bys l)) (Z 1)) : Meets Try.prog 31 [.pt 0 0, .ow 1] [tb r k, b0] (.fr 5 1 (bys (spoilL l r k))) [some (tb r (spoilK l r k)), some b0] := by
  intro w Z M K us hM hK hargs hpre hdist
  have hin0 : (0, tb r k) ∈ numd 0 [tb r k, b0] := by simp [numd]
  have hin1 : (1, b0) ∈ numd 0 [tb r k, b0] := by simp [numd]
  obtain ⟨g1, g2⟩ := hpre 0 _ hin0
  obtain ⟨g3, g4⟩ := hpre 1 _ hin1
  obtain ⟨p, TA, tc, hz, hT, hrr, hMp⟩ := tb_in hr hn g1 g2
  simp only [AV.reps, AV.rep] at hargs
  obtain ⟨_, _, rfl, ⟨b, hb, rfl⟩, _, _, rfl, h1, rfl⟩ := hargs
  subst h1
  have hrow : RV.rep (fun _ => False) w (.sl 1 (bys l)) (Z 1) := hread Z w M g3
  obtain ⟨A, c, hz1, _, _, h4⟩ := rep_rd hrow
  have hne : ∀ x, blk (Z 1) = some x → x ≠ p := fun x hx e => hdist 0 1 _ _ hin0 hin1 (by decide) p (by rw [hz]; rfl) (e ▸ hx)
  rw [hz] at hb
  simp only [blk, Option.some.injEq] at hb
  subst hb
  have hK1 : K ≠ 0 := by simp at hK; omega
  have hK2 : K ≠ 1 := by simp at hK; omega
  rw [hz1]
  refine (spoiled_ex p l A _ c w hT h4 hl).mono fun e w' ⟨v, he, ho, ha, hg⟩ => ⟨v, he, fun i => if i = K then v else Z i, fun i hi => ?_, ?_, fun i b h => ?_, fun j b hj => ?_, fun j j' x hj hj' hne => ?_, fun j x hj hx => .inl ?_, ?_⟩
  · have : i ≠ K := by simp [callSp, AV.unfr] at hi; omega
    simp [this]
  · simp [callSp, AV.unfr, AV.rep]
  · simp only [callSp, numdP, List.mem_cons, List.not_mem_nil, or_false, Prod.mk.injEq, Option.some.injEq] at h
    have hN : ∀ q, q < w.heap.size → New K (callSp K [tb r k, b0] (.fr 5 1 (bys (spoilL l r k))) [some (tb r (spoilK l r k)), some b0]) (fun i => if i = K then v else Z i) M q → M q := fun q hq hq' => by
      rcases hq' with h0 | ⟨j, hj, hjq⟩
      · exact h0
      · have : j = 0 := by simpa [callSp, AV.unfr] using hj
        subst this
        simp only [Nat.add_zero, if_pos] at hjq
        have := own_blk ho hjq
        omega
    rcases h with ⟨rfl, rfl⟩ | ⟨rfl, rfl⟩
    · exact tb_held (by simp [Ne.symm hK1, hz]) hrr (upto_grown hg hMp) hN ha
    · exact g3.keep (upto_grown hg hMp) hN (by simp [Ne.symm hK2]) (fun i hi => by rw [hb0] at hi; cases hi) (fun x hx => hg.block x (g3.lt hx) (fun e => hne x hx (by injection e)))
  · cases j with
    | zero =>
      simp [callSp, AV.unfr] at hj
      subst hj
      refine ⟨bv (spoilL l r k), ?_, rvs_bys _ _ _, fun e he => by simp only [bys, List.mem_map] at he; obtain ⟨b, _, rfl⟩ := he; rfl⟩
      simp only [Nat.add_zero, if_pos, bys_len]
      exact ho.mono (Nat.zero_le _)
    | succ j => simp [callSp, AV.unfr] at hj
  · simp [callSp, AV.unfr] at hj hj'; omega
  · have : j = 0 := by simpa [callSp, AV.unfr] using hj
    subst this
    simp only [Nat.add_zero, if_pos] at hx
    exact own_blk ho hx
  · refine upto_grown hg ?_
    exact ⟨0, some (tb r (spoilK l r k)), by simp [callSp, numdP], by rw [hz]; rfl⟩
theorem spoiled_o (l : List UInt8) (r : List Int) (k : Nat) (hr : Ints r) (hn : r.length ≤ 140737488351232) (hl : l.length ≤ 140737488351300) : Meets Try.prog 31 [.pt 0 0, .ow 1] [tb r k, .row 5 1 (bys l)] (.fr 5 1 (bys (spoilL l r k))) [some (tb r (spoilK l r k)), some (.row 5 1 (bys l))] :=
  spoiled_g _ l r k hr hn hl rfl fun Z w M h => row_read h (fun _ _ h => h.elim) (fun _ _ h => h)
theorem spoiled_k (l m : List UInt8) (n c : Nat) (hm : (bys m).take n = bys l) (r : List Int) (k : Nat) (hr : Ints r) (hn : r.length ≤ 140737488351232) (hl : l.length ≤ 140737488351300) : Meets Try.prog 31 [.pt 0 0, .ow 1] [tb r k, .rowk 5 1 (bys m) n c] (.fr 5 1 (bys (spoilL l r k))) [some (tb r (spoilK l r k)), some (.rowk 5 1 (bys m) n c)] :=
  spoiled_g _ l r k hr hn hl rfl fun Z w M h => by
    obtain ⟨g, e, h1, h2⟩ := rows_of_rowk (B' := fun _ => False) h (fun _ _ h => h.elim) (fun _ _ h => h)
    rw [e, ← hm]
    exact h2 n h1
end Go.Proofs.Ytabgmodllifgjaa
