/- Texts of the second layer in one: Ai8. -/
import Derived.Test.YtibedaeefnjjlaaGreatG14
set_option linter.unusedVariables false
set_option linter.unusedSimpArgs false
namespace Go.Ab
open Go.RowKit
def LeX (S T : St) : Prop := ∀ C F a w, C.ln = ⟨0, 0⟩ → SimX C S F a w → SimX C T F a w
theorem LeX.mk {S T : St} (l : List (Nat × Nat)) (G : List Nat) (hn : numsOk ⟨0, 0⟩ T (rho l) G = true) (he : eLe S (rho l) G T.env) (hh : hLe S (rho l) G T.H) : LeX S T :=
 fun C F a w hl h => h.weaken hl T l G (by rw [hl]; exact hn) he hh
section
variable {P : Program} {N : Nat} {Q : Exit → St → Fam → Prop} {S T : St} {F : Fam} {c d : Code}
theorem awpX_piece (hf : fullB S = true) (h : awp P ⟨S.nx, S.nx⟩ N c (fun e S' => e = .normal ∧ LeX S' T) S) (k : Q .normal T F) : awpX P N c Q S F :=
 fun C h1 h2 h3 a w hs => Code.wp_mono (fun e a' w' ⟨S', F', ⟨e1, F1, hle⟩, h5⟩ => by
  subst e1 F1
  exact ⟨T, _, k, hle C _ a' w' h2 h5⟩) (awpX_of (Q := fun e S' F' => e = .normal ∧ F' = F ∧ LeX S' T) hf (awp_mono h fun e S' h => ⟨h.1, rfl, h.2⟩) C h1 h2 h3 a w hs)
theorem awpX_seqP (hf : fullB S = true) (h : awp P ⟨S.nx, S.nx⟩ N c (fun e S' => e = .normal ∧ LeX S' T) S) (k : awpX P N d Q T F) : awpX P N (.seq c d) Q S F :=
 awpX_seq (awpX_piece hf h k)
theorem awpX_leX {S' : St} (h : LeX S S') (k : awpX P N c Q S' F) : awpX P N c Q S F := awpX_le S' F (fun C a w hl hs => h C F a w hl hs) k
theorem awpX_rowo {i t sz : Nat} {es : List (List RV)} {e : List RV} (hi : S.HF i = some (.row t sz (es ++ [e]))) (k : awpX P N c Q ⟨S.env, (i, some (.rowo t sz es (e.map AV.r))) :: S.H, S.nx⟩ F) : awpX P N c Q S F :=
 awpX_le _ _ (fun C a w hl hs => hs.rowo hl hi) k
theorem awpX_take {E : List (Nat × AV)} {H : List (Nat × Option Blk)} {n : Nat} {v : Value} {b : Blk} {F1 F2 : Fam} (hS : S = ⟨envL n v E, blkL n v H, n⟩) (k : awpX P N c Q ⟨E, (n, some b) :: H, n + 1⟩ (F1 ++ F2)) : awpX P N c Q S (F1 ++ (v, b) :: F2) := by
 subst hS
 exact awpX_le _ _ (fun C a w hl hs => hs.take hl) k
theorem awpX_put {E : List (Nat × AV)} {H : List (Nat × Option Blk)} {n q : Nat} {b : Blk} {F1 F2 : Fam} (hq : getH H q = some b) (hb : b.ids = []) (k : ∀ v, awpX P N c Q ⟨envL q v E, (q, none) :: blkL q v H, n⟩ (F1 ++ (v, b) :: F2)) : awpX P N c Q ⟨E, H, n⟩ (F1 ++ F2) :=
 awpX_step (fun v => ⟨envL q v E, (q, none) :: blkL q v H, n⟩) (fun v => F1 ++ (v, b) :: F2) (fun C a w hl hs => hs.put hl hq hb) k
theorem awpX_seqE {x y : Code} {α : Type} (I : α → Prop) (T : α → St) (F' : α → Fam) (h : awpX P N x (thenX (fun S1 F1 => ∃ z, I z ∧ S1 = T z ∧ F1 = F' z) Q) S F) (k : ∀ z, I z → awpX P N y Q (T z) (F' z)) : awpX P N (.seq x y) Q S F :=
 awpX_seq (awpX_mono h fun e S1 F1 h => by
  cases e with
  | normal => obtain ⟨z, hz, rfl, rfl⟩ := h; exact k z hz
  | exit id => exact h
  | goto l => exact h
  | ret => exact h
  | panic ch => exact h
  | outgrown => exact h)
theorem awpX_fact {φ : Prop} (hS : ∀ C a w, SimX C S F a w → φ) (k : φ → awpX P N c Q S F) : awpX P N c Q S F := fun C h1 h2 h3 a w hs => k (hS C a w hs) C h1 h2 h3 a w hs
theorem SimX.slice {C : Cx} {a : Act} {w : World} {F1 F2 : Fam} {v : Value} {t sz : Nat} {es : List (List RV)} (h : SimX C S (F1 ++ (v, .row t sz es) :: F2) a w) : ∃ A m c, v = .slice A m c := by
 obtain ⟨Z, K, h⟩ := h
 have hmid : (F1 ++ (v, Blk.row t sz es) :: F2)[F1.length]? = some (v, Blk.row t sz es) := by rw [List.getElem?_append_right (Nat.le_refl _), Nat.sub_self]; rfl
 obtain ⟨f1, _⟩ := h.fam _ _ hmid
 obtain ⟨us, ⟨_, h1⟩, _⟩ := (h.sim.holds _ _ (h.fm hmid)).1
 rw [f1] at h1
 rcases h1 with ⟨e, _⟩ | ⟨g, cap, cur, e, _⟩
 ·exact ⟨_, _, _, e⟩
 ·exact ⟨_, _, _, e⟩
end
end Go.Ab
