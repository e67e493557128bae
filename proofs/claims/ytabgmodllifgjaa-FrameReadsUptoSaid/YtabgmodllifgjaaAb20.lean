/- The second layer: an append of an own row whose room is known. No conditions. -/
import Derived.Test.YtabgmodllifgjaaAb19
namespace Go.Ab
open Go.RowKit
set_option linter.unusedVariables false
set_option linter.unusedSimpArgs false
section
variable {P : Program} {L : Ln} {N : Nat} {ops : Array Oper} {chk : List (Nat × Sp) → Bool} {Q : St → Prop} {l : List Oper} {E : List (Nat × AV)} {H : List (Nat × Option Blk)} {n : Nat} {tr : List (Nat × Sp)}
variable {d : Nat} {ty : TypeId} {pos : String} {af : Array Edge} {g : Option (Nat × Bool)} {t : TypeId} {x y : Operand}
/-- An append onto an own slice; onto nothing. -/
theorem w_appendK {e sz b i : Nat} [hT : SlT P t e sz b] {es es' : List (List RV)} {rd : List (Nat × Blk)} (hx : evA (get E) x = .ow i) (hi : getH H i = some (.row e sz es)) (hs : SrcK (get E) (getH H) e sz y es' rd) (hne : (rd.all fun p => !Nat.beq p.1 i) = true)
    (hlen : (es.length + es'.length) * b ≤ 140737488355328 ∧ es.length + es'.length ≤ 140737488355328) (hloc : (Nat.blt i L.m || Nat.ble L.n i) = true)
    (hd : Nat.blt d N = true) (hg : Wanted ops (get E) ⟨some d, .call { callee := .builtin .append, args := #[x, y], argTypes := #[t, t] }, ty, pos, af, g⟩ true)
    (h : wpA P L N ops chk Q l ⟨(d, .ow n) :: E, (n, some (.row e sz (es ++ es'))) :: (i, none) :: H, n + 1⟩ ((n, ⟨true, (i, .row e sz es) :: rd, .ow n, [(i, none)], [.row e sz (es ++ es')]⟩) :: tr)) :
    wpA P L N ops chk Q (⟨some d, .call { callee := .builtin .append, args := #[x, y], argTypes := #[t, t] }, ty, pos, af, g⟩ :: l) ⟨E, H, n⟩ tr := by
  refine ⟨⟨true, (i, .row e sz es) :: rd, .ow n, [(i, none)], [.row e sz (es ++ es')]⟩, ⟨fun x hx => ?_, hg, fun _ a w Z M hM hr hh hdist => ?_, (fun h => by cases h), fun D hD hDH hf => ?_⟩, h⟩
  · injection hx with hx; subst hx; exact blt_t.1 hd
  · have hxr : (evA (get E) x).rep Z M w (a.eval x) := hr x (by simp [Op.operands, Call.operands])
    have hyr : (evA (get E) y).rep Z M w (a.eval y) := hr y (by simp [Op.operands, Call.operands])
    rw [hx, AV.rep] at hxr
    obtain ⟨⟨us, h1, h2, h3⟩, hMi⟩ := hh i (.row e sz es) (by simp)
    obtain ⟨A, c, news, h4, h5, h6, h7, h8⟩ := hs.val hyr (fun j b hj => (hh j b (List.mem_cons_of_mem _ hj)).1)
    obtain ⟨v', w', h9, h10, h11, h12⟩ := run_append_gen (P := P) (t := t) w ty (Z i) es.length es'.length c us news h1 A h5 h6 h7.one hlen.1 (by unfold maxLen; omega)
    have hex : (execOp a.eval ⟨some d, .call { callee := .builtin .append, args := #[x, y], argTypes := #[t, t] }, ty, pos, af, g⟩).run P w = .ok (.value v') w' := by
      simp only [execOp, resolve, invoke, builtin, Sem.run_bind, Sem.run_pure, Result.andThen_ok, List.map_toArray, List.map_cons, List.map_nil, hxr, h4, h9]
    obtain ⟨b1, A1, c1, b2⟩ := own_blk h1
    obtain ⟨b3, A2, c2, b4⟩ := own_blk h10
    have hU : Upto (fun q => blk (Z i) = some q) w w' := ⟨h11.os, h11.tape, h11.output, h11.size, fun q hq hne => h11.block q hq (fun e => hne (by rw [← b1]; exact e.symm))⟩
    have hU' : Upto M w w' := hU.mono fun q _ hq => hMi q hq
    have hz1 : (fun j => if j = n then v' else Z j) n = v' := by simp
    refine exec_value hex ⟨fun j => if j = n then v' else Z j, fun j hj => ?_, by rw [AV.rep]; simp, fun j c hj => ?_, fun j c hj => ?_, fun j j' q hj hj' hne => ?_, fun j q hj hq => ?_, hU.mono fun q _ hq => ⟨i, none, by simp, hq⟩⟩
    · have : j ≠ n := by simp at hj; omega
      simp [this]
    · have := mem_one hj; cases this
    · have hj0 : j = 0 := by
        cases j with
        | zero => rfl
        | succ j => simp at hj
      subst hj0
      have : c = .row e sz (es ++ es') := by simpa using hj.symm
      subst this
      have hB : ∀ q, q < w.heap.size → New n ⟨true, (i, .row e sz es) :: rd, .ow n, [(i, none)], [.row e sz (es ++ es')]⟩ (fun j => if j = n then v' else Z j) M q → M q := by
        rintro q hq (h0 | ⟨j, hj, hjq⟩)
        · exact h0
        · have : j = 0 := by simpa using hj
          subst this
          simp only [Nat.add_zero, if_pos] at hjq
          rw [b3, b1] at h12
          rcases h12 with h12 | h12
          · exact hMi q (by rw [← h12]; exact hjq)
          · rw [h12] at hjq; injection hjq with hjq; omega
      refine ⟨us ++ news, ?_, ?_, fun e he => ?_⟩
      · simp only [Nat.add_zero, if_pos, List.length_append]
        exact h10
      · rw [List.flatten_append]
        exact (h2.mono hU' hB).append (h7.mono hU' hB)
      · rcases List.mem_append.1 he with he | he
        · exact h3 e he
        · exact h8 e he
    · simp at hj hj'; omega
    · have : j = 0 := by simpa using hj
      subst this
      have hq' : blk v' = some q := by simpa using hq
      rw [b3, b1] at h12
      rcases h12 with h12 | h12
      · exact .inr ⟨i, by simp, by rw [← h12]; exact hq'⟩
      · rw [h12] at hq'; injection hq' with hq'; exact .inl (by omega)
  · refine ⟨fun j b hj => ?_, fun j o ho => ?_, fun j o ho => ?_, fun j ho => ?_, hf, fun j hj => .inr ?_, fun b hb j hj => ?_, fun j b hb => ?_⟩
    · rcases List.mem_cons.1 hj with e1 | e1
      · injection e1 with e1 e2; subst e1 e2; exact hi
      · exact hs.rdH j b e1
    · have := mem_one ho
      injection this with e1 e2
      subst e1
      exact ⟨.row e sz es, by simp⟩
    · have := mem_one ho
      injection this with e1 e2
      subst e1 e2
      simp [List.lookup_cons]
    · have := mem_one ho
      injection this with e1 e2
      subst e1
      rw [Bool.or_eq_true, blt_t, ble_t] at hloc
      exact hloc
    · have : j = n := by simpa [AV.ids] using hj
      subst this
      simp
    · have := mem_one hb
      subst this
      simp [Blk.ids] at hj
    · have := mem_one hb; cases this
end
end Go.Ab
