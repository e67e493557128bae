/- Chapter 28: what the tape's entries are; entries that are changed. Conditions: lengths. --ext5 -/
import Derived.Test.YtabgmodllifgjaaLe8
namespace Go.Proofs.Ytabgmodllifgjaa
open Go.RowKit Go.Ab
set_option maxRecDepth 100000
set_option linter.unusedVariables false
set_option linter.unusedSimpArgs false

theorem okE_append {acc : List Ent} {s : Ent} {k : Nat} (hk : k < acc.length) : okE (acc ++ [s]) k ↔ okE acc k := by
  have h1 : (acc ++ [s]).getD k e0 = acc.getD k e0 := by simp [List.getElem?_append_left hk]
  have h2 : (acc ++ [s]).getD (k - 1) e0 = acc.getD (k - 1) e0 := by simp [List.getElem?_append_left (show k - 1 < acc.length by omega)]
  have h3 : endR (acc ++ [s]) k = endR acc k := by unfold endR; rw [h2]
  have h4 : endR (acc ++ [s]) (k + 1) = endR acc (k + 1) := by rw [endR_succ, endR_succ, h1]
  unfold okE
  rw [h1, h2, h3, h4]
/-- Entries as the tape makes them. -/
structure EnI (acc : List Ent) (lst : Int) : Prop where
  ok : ∀ k, k < acc.length → okE acc k
  end0 : 21 ≤ endR acc acc.length
  end1 : endR acc acc.length ≤ 21 + 400 * (acc.length : Int)
  last : 0 < acc.length → (acc.getD (acc.length - 1) e0).lst = lst
  lst0 : -1000 ≤ lst
  lst1 : lst ≤ 1000 + 200 * (acc.length : Int)
  few : ∀ s ∈ acc, -1000 ≤ s.fst ∧ s.lst ≤ 1000 + 200 * (acc.length : Int) ∧ 0 ≤ s.off ∧ s.off ≤ 21 + 400 * (acc.length : Int) ∧ 0 ≤ s.len ∧ s.len ≤ 400 ∧ 0 ≤ s.cnt ∧ s.cnt ≤ 60 ∧ s.fst ≤ s.lst
theorem EnI.step {t : List Int} {q : Nat} {acc : List Ent} {lst : Int} (h : EnI acc lst) (h5 : acc.length ≤ 5) : EnI (acc ++ [enE t q (endR acc acc.length) lst]) (enE t q (endR acc acc.length) lst).lst := by
  have n1 := nx_range t q (show (1 : Int) ≤ 300 by omega)
  have n2 := nx_range t (adv t q) (show (1 : Int) ≤ 50 by omega)
  have n3 := nx_range t (adv t (adv t q)) (show (1 : Int) ≤ 20 by omega)
  have n4 := nx_range t (adv t (adv t (adv t q))) (show (1 : Int) ≤ 100 by omega)
  have e1 := h.end0
  have e2 := h.end1
  have e3 := h.lst0
  have e4 := h.lst1
  have hl1 : (acc ++ [enE t q (endR acc acc.length) lst]).length = acc.length + 1 := by simp
  have hg : (acc ++ [enE t q (endR acc acc.length) lst]).getD acc.length e0 = enE t q (endR acc acc.length) lst := by simp
  have hs : endR (acc ++ [enE t q (endR acc acc.length) lst]) (acc.length + 1) = endR acc acc.length + (13 + nx t q 300) := by rw [endR_succ, hg]; rfl
  have hL : (enE t q (endR acc acc.length) lst).lst = lst + 1 + nx t (adv t (adv t q)) 20 + nx t (adv t (adv t (adv t q))) 100 := rfl
  refine ⟨fun k hk => ?_, by rw [hl1, hs]; omega, by rw [hl1, hs]; push_cast; omega, fun _ => by rw [hl1, Nat.add_sub_cancel, hg], by rw [hL]; omega, by rw [hL, hl1]; push_cast; omega, fun s hs => ?_⟩
  · rw [hl1] at hk
    rcases Nat.lt_or_ge k acc.length with hk2 | hk2
    · exact (okE_append hk2).2 (h.ok k hk2)
    · obtain rfl : k = acc.length := by omega
      unfold okE
      rw [hg, hs]
      have he : endR (acc ++ [enE t q (endR acc acc.length) lst]) acc.length = endR acc acc.length := by
        unfold endR
        split
        · rfl
        · rename_i h0
          have : (acc ++ [{ off := endR acc acc.length, len := 13 + nx t q 300, cnt := 1 + nx t (adv t q) 50, fst := lst + 1 + nx t (adv t (adv t q)) 20, lst := lst + 1 + nx t (adv t (adv t q)) 20 + nx t (adv t (adv t (adv t q))) 100 }] : List Ent).getD (acc.length - 1) e0 = acc.getD (acc.length - 1) e0 := by
            simp [List.getElem?_append_left (show acc.length - 1 < acc.length by omega)]
          unfold enE
          rw [show (acc ++ [_] : List Ent).getD (acc.length - 1) e0 = acc.getD (acc.length - 1) e0 by simp [List.getElem?_append_left (show acc.length - 1 < acc.length by omega)]]
      rw [he]
      refine ⟨rfl, ?_, ?_, ?_, by omega⟩
      · unfold enE; dsimp only; omega
      · unfold enE; dsimp only; omega
      · rcases Nat.eq_zero_or_pos acc.length with h0 | h0
        · exact .inl h0
        · right
          have hla := h.last h0
          have : (acc ++ [enE t q (endR acc acc.length) lst]).getD (acc.length - 1) e0 = acc.getD (acc.length - 1) e0 := by simp [List.getElem?_append_left (show acc.length - 1 < acc.length by omega)]
          rw [this, hla]; unfold enE; dsimp only; omega
  · rw [hl1]
    rcases List.mem_append.1 hs with hs | hs
    · have := h.few s hs; push_cast; omega
    · simp at hs; subst hs; unfold enE; dsimp only; push_cast; omega
theorem enG_ok (t : List Int) : ∀ (i q : Nat) (lst : Int) (acc : List Ent), acc.length + i ≤ 5 → EnI acc lst → ∃ l2, EnI (enG t i q lst acc).1 l2 ∧ (enG t i q lst acc).1.length ≤ 5
  | 0, q, lst, acc, h1, h2 => by rw [enG]; exact ⟨lst, h2, by omega⟩
  | i + 1, q, lst, acc, h1, h2 => by
    rw [enG]
    exact enG_ok t i _ _ _ (by simp; omega) (h2.step (by omega))
theorem entL_ok (t : List Int) (k : Nat) : ∃ l2, EnI (entL t k).1 l2 ∧ (entL t k).1.length ≤ 5 := by
  have h1 := nx_range t k (show (1 : Int) ≤ 1000 by omega)
  have h2 := nx_range t (adv t k) (show (1 : Int) ≤ 6 by omega)
  exact enG_ok t _ _ _ [] (by simp; omega) ⟨fun k h => by simp at h, by simp [endR], by simp [endR], fun h => by simp at h, by omega, by simp; omega, fun s h => by simp at h⟩
end Go.Proofs.Ytabgmodllifgjaa
