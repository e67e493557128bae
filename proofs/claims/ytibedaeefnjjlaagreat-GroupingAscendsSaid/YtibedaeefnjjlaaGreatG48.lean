/- Texts of the second layer in one: Gq3 Ac2 Rg3. -/
import Derived.Test.YtibedaeefnjjlaaGreatG47
import Derived.Test.YtibedaeefnjjlaaGreatG46
import Derived.Test.YtibedaeefnjjlaaGreatG40
set_option maxRecDepth 100000
set_option linter.unusedVariables false
set_option linter.unusedSimpArgs false
namespace Go.Proofs.YtibedaeefnjjlaaGreat
open Go.RowKit Go.Ab Go.Wd
def grs (l : List Pc) : List Gr := (sortP l).foldl jn []
theorem VS_01 : VS 0 1 := ⟨⟨by omega, by unfold N127; decide, by unfold N127; decide, by decide⟩, by unfold B64; decide, by unfold B64; decide⟩
theorem SCn.pos {c : Cn} (h : SCn c) (ho : c.o = false) : 0 < c.lo.2 ∧ 0 < c.hi.2 ∧ fle c.lo c.hi := h.ok.pos ho
theorem grs_len {l : List Pc} : (grs l).length ≤ l.length := by
 have := jn_len (sortP l) []
 rw [(sortP_perm l).length_eq] at this
 show ((sortP l).foldl jn []).length ≤ _
 simpa using this
end Go.Proofs.YtibedaeefnjjlaaGreat
namespace Go.Proofs.YtibedaeefnjjlaaGreat
open Go.RowKit Go.Ab Go.Wd
theorem chC_ok {c : Cn} (h : c.ok) : VR (chC c).1 (chC c).2 ∧ (c.o = false → fle c.lo (chC c) ∧ fle (chC c) c.hi) := by
 rcases h with ⟨h1, _⟩ | ⟨h1, h2, h3, h4⟩
 ·refine ⟨?_, fun h => by rw [h1] at h; cases h⟩
  unfold chC
  rw [h1]
  exact VS_01.1
 ·unfold chC
  rw [h1]
  simp only [Bool.false_eq_true, if_false]
  obtain ⟨b1, b2, b3, b4, b5, b6, b7⟩ := btw_in c.p c.q c.r c.s h2.1 h3.1 h4
  have n1 : (btw c.p c.q c.r c.s).1.natAbs < N127 := by
   have e1 := h2.2.1
   have e2 := h3.2.1
   omega
  have n2 : (btw c.p c.q c.r c.s).2.natAbs < N127 := by
   have e1 := h2.2.2.1
   omega
  exact ⟨⟨b3, n1, n2, b4⟩, fun _ => ⟨b1, b2⟩⟩
theorem gpc_inv {l : List Pc} (h : PcOk l) : GInv (sortP l) (grs l) := gInv h
theorem gpc_asc {l : List Pc} (h : PcOk l) {i : Nat} {g g' : Gr} (hg : (grs l)[i]? = some g) (hg' : (grs l)[i + 1]? = some g') :
  g.ky ≤ g'.ky ∧ (g.ky = g'.ky → (chC g.c).1 * (chC g'.c).2 < (chC g'.c).1 * (chC g.c).2) := by
 have hI := gpc_inv h
 have hp := hI.ap
 rw [List.pairwise_iff_getElem] at hp
 obtain ⟨h1, e1⟩ := List.getElem?_eq_some_iff.1 hg
 obtain ⟨h2, e2⟩ := List.getElem?_eq_some_iff.1 hg'
 have := hp i (i + 1) h1 h2 (by omega)
 rw [e1, e2] at this
 obtain ⟨k1, k2⟩ := this
 refine ⟨k1, fun hk => ?_⟩
 obtain ⟨o1, o2, o3⟩ := k2 hk
 have m1 := List.mem_of_getElem? hg
 have m2 := List.mem_of_getElem? hg'
 obtain ⟨x, hx, x1, x2, x3⟩ := hI.lo g' m2 o2
 have hlt := (o3 x hx x1).2
 rw [x3] at hlt
 have c1 := hI.ok g m1
 have c2 := hI.ok g' m2
 obtain ⟨v1, w1⟩ := chC_ok c1
 obtain ⟨v2, w2⟩ := chC_ok c2
 have p1 := c1.pos o1
 have p2 := c2.pos o2
 exact flt_le v1.1 p2.1 v2.1 (fle_lt v1.1 p1.2.1 p2.1 (w1 o1).2 hlt) (w2 o2).1
theorem gpc_nil {l : List Pc} (h : PcOk l) : (grs l).length = 0 ↔ l.length = 0 := by
 have hI := gpc_inv h
 constructor
 ·intro h0
  have h1 : grs l = [] := List.length_eq_zero_iff.1 h0
  have h2 := hI.fl
  rw [h1] at h2
  have h3 := congrArg List.length h2
  rw [List.length_map, (sortP_perm l).length_eq] at h3
  exact h3.symm
 ·intro h0
  have := grs_len (l := l)
  omega
end Go.Proofs.YtibedaeefnjjlaaGreat
namespace Go.Proofs.YtibedaeefnjjlaaGreat
open Go.RowKit Go.Ab Go.Wd
set_option maxHeartbeats 1000000 in
theorem rcValidG_m (p q r s : Int) (h1 : VR p q) (h2 : VR r s) (h3 : p * s ≤ r * q) : Meets Tryz.prog 40 [cn false p q r s] [] (.r (.v (.bool true))) [] := by
 have v1 := rValidG_m p q h1
 have v2 := rValidG_m r s h2
 have cC := rCmpG_m p q r s h1 h2
 have hcmp := cmpZ_le h3
 generalize cmpZ (p * s) (r * q) = e at *
 refine fn_of Tryz.func40 rfl (Nat.le_of_ble_eq_true rfl) rfl rfl ?_
 (repeat' (first | refine r_4eabd4 ?_ | (refine is_f 41 ?_; refine r_bb2b31 (v1) ?_) | (refine is_f 41 ?_; refine r_bb2b31 (v2) ?_) | (refine is_f 18 ?_; refine r_bb2b31 (cC) ?_) | (refine r_0efca5 (fun hb => ?_) (fun hb => ?_) <;> (try (exfalso; omega))) | fail))
 all_goals (first | (exfalso; omega) | exact ret1 [] (.bool rfl) rfl rfl rfl)
end Go.Proofs.YtibedaeefnjjlaaGreat
