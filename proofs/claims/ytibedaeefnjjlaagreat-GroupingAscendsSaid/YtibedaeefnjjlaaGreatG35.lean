/- Texts of the second layer in one: Ab35. -/
import Derived.Test.YtibedaeefnjjlaaGreatG31
set_option linter.unusedVariables false
namespace Go.Ab
open Go.RowKit
section
variable {P : Program} {env : Nat → AV} {H : Nat → Option Blk} {d : Option Tmp} {ty : TypeId} {pos : String} {af : Array Edge} {g : Option (Nat × Bool)} {t : TypeId} {x : Operand} {cs : List RV}
theorem p_loadNp {n : Nat} [AgT P t n] (hx : evA env x = .rp cs) (hl : n ≤ cs.length) : ReadOk P ⟨d, .load t x, ty, pos, af, g⟩ env H [] (.ag ((cs.take n).map .r)) := by
 obtain ⟨D, hu, hD⟩ := AgT.und (P := P) (t := t) (n := n)
 have hs : (P.info? t).map (·.size) = some (cs.take n).length := by rw [AgT.size, List.length_take, Nat.min_eq_left hl]
 refine ⟨fun i b h => by simp at h, fun i hi => ?_, fun a w Z M hr _ => ?_⟩
 ·exfalso
  have : ∀ l : List RV, AV.idss (l.map .r) = [] := by
   intro l
   induction l with
   | nil => rfl
   | cons x l ih => simp [AV.idss, AV.ids, ih]
  rw [AV.ids, this] at hi
  cases hi
 have h1 := hr x (by simp [Op.operands])
 rw [hx, AV.rep] at h1
 obtain ⟨ad, h2, h3, h4, h5⟩ := h1
 have h5' : RV.row M w (cs.take n) ad 0 := (RV.row_iff ad (cs.take n) 0).2 fun k c hk => (RV.row_iff ad cs 0).1 h5 k c (by
  rw [List.getElem?_take] at hk
  split at hk
  ·exact hk
  ·cases hk)
 obtain ⟨us, h6, h7⟩ := (RV.row_vals ad (cs.take n) 0).1 h5'
 have hl : (loadCells ad us.length).run P w = .ok us.toArray w := run_loadCells_list (P := P) w ad us (fun j v hv => by have := h7 j v hv; rwa [Nat.zero_add] at this)
 refine ⟨.agg us.toArray, ?_, by rw [AV.rep]; exact ⟨_, rfl, rvs_reps h6⟩⟩
 have hagg : (isAgg t).run P w = .ok true w := by
  simp only [isAgg, Sem.run_bind, run_underlying hu, Result.andThen_ok]
  cases D <;> first | rfl | (simp [isAggD] at hD)
 have hz : (sizeOf t).run P w = .ok us.length w := by rw [run_sizeOf hs, h6.len]
 simp only [execOp, h2, Instr.loadAt, Instr.sureAddr, loadVar, Sem.run_bind, Sem.run_pure, Result.andThen_ok, hagg, hz, if_true, hl]
end
end Go.Ab
