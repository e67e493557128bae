/- The second layer: a nil check; a function that hands back a new variable. No conditions. -/
import Derived.Test.YtabgmodllifgjaaAb14
namespace Go.Ab
open Go.RowKit
set_option linter.unusedVariables false
set_option linter.unusedSimpArgs false
section
variable {P : Program} {L : Ln} {N : Nat} {ops : Array Oper} {chk : List (Nat × Sp) → Bool} {Q : St → Prop} {l : List Oper} {E : List (Nat × AV)} {H : List (Nat × Option Blk)} {n : Nat} {tr : List (Nat × Sp)}
variable {d' : Option Tmp} {env : Nat → AV} {HF : Nat → Option Blk}
variable {d : Nat} {ty : TypeId} {pos : String} {af : Array Edge} {g : Option (Nat × Bool)} {t u : TypeId} {x y : Operand}

theorem p_nilck_pt {i o : Nat} (hx : evA env x = .pt i o) : ReadOk P ⟨d', .nilCheck x, ty, pos, af, g⟩ env HF [] (.pt i o) := by
  refine ⟨fun i b h => mem_nil h, fun i hi => ids_ev hx i (by simpa [AV.ids] using hi), fun a w Z M hr _ => ?_⟩
  have h1 := hr x (by simp [Op.operands])
  rw [hx] at h1
  have h2 := h1
  rw [AV.rep] at h1
  obtain ⟨b, _, h3⟩ := h1
  refine ⟨a.eval x, ?_, h2⟩
  simp only [execOp, h3, Sem.run_pure]
theorem p_nilck_pe {i sz k f : Nat} (hx : evA env x = .pe i sz k f) : ReadOk P ⟨d', .nilCheck x, ty, pos, af, g⟩ env HF [] (.pe i sz k f) := by
  refine ⟨fun i b h => mem_nil h, fun i hi => ids_ev hx i (by simpa [AV.ids] using hi), fun a w Z M hr _ => ?_⟩
  have h1 := hr x (by simp [Op.operands])
  rw [hx] at h1
  have h2 := h1
  rw [AV.rep] at h1
  obtain ⟨b, _, h3⟩ := h1
  refine ⟨a.eval x, ?_, h2⟩
  simp only [execOp, h3, Sem.run_pure]
theorem p_nilck_rp {cs : List RV} (hx : evA env x = .rp cs) : ReadOk P ⟨d', .nilCheck x, ty, pos, af, g⟩ env HF [] (.rp cs) := by
  refine ⟨fun i b h => mem_nil h, fun i hi => ids_ev hx i (by simp [AV.ids] at hi), fun a w Z M hr _ => ?_⟩
  have h1 := hr x (by simp [Op.operands])
  rw [hx] at h1
  have h2 := h1
  rw [AV.rep] at h1
  obtain ⟨b, h3, _⟩ := h1
  refine ⟨a.eval x, ?_, h2⟩
  simp only [execOp, h3, Sem.run_pure]

theorem p_cuth_b {e b : Nat} [hT : SlT P t e 1 b] {k : IntKind} {a : Int} {m : Nat} {bs : List UInt8} (hx : evA env x = .r (.sl 1 (bys bs))) (hy : evA env y = .r (.v (.int k a))) (ha : a = (m : Int)) (hm : m ≤ bs.length) :
    ReadOk P ⟨d', .slice t x none (some y) none, ty, pos, af, g⟩ env HF [] (.r (.sl 1 (bys (bs.take m)))) := by
  rw [bys_take]; exact p_cuth hx hy ha (by rw [bys_len]; exact hm)
theorem p_cutl_b {e b : Nat} [hT : SlT P t e 1 b] {k : IntKind} {a : Int} {j : Nat} {bs : List UInt8} (hx : evA env x = .r (.sl 1 (bys bs))) (hy : evA env y = .r (.v (.int k a))) (ha : a = (j : Int)) (hj : j ≤ bs.length) :
    ReadOk P ⟨d', .slice t x (some y) none none, ty, pos, af, g⟩ env HF [] (.r (.sl 1 (bys (bs.drop j)))) := by
  rw [bys_drop]; exact p_cutl hx hy ha (by rw [bys_len]; exact hj)
theorem p_cut2_b {e b : Nat} [hT : SlT P t e 1 b] {k k' : IntKind} {a c : Int} {j m : Nat} {z : Operand} {bs : List UInt8} (hx : evA env x = .r (.sl 1 (bys bs))) (hy : evA env y = .r (.v (.int k a))) (hz : evA env z = .r (.v (.int k' c))) (ha : a = (j : Int)) (hc : c = (m : Int)) (hj : j ≤ m) (hm : m ≤ bs.length) :
    ReadOk P ⟨d', .slice t x (some y) (some z) none, ty, pos, af, g⟩ env HF [] (.r (.sl 1 (bys ((bs.drop j).take (m - j))))) := by
  rw [bys_take, bys_drop]; exact p_cut2 hx hy hz ha hc hj (by rw [bys_len]; exact hm)
theorem str_toList (l : List UInt8) : ByteArray.toList ⟨l.toArray⟩ = l := by simp
/-- The contract of a function that hands back a pointer to a new variable. -/
def Makes (P : Program) (f : FuncId) (ds : List AV) (T : TypeId) (cs : List RV) : Prop :=
  ∀ (w : World) (Z : Nat → Value) (M : Nat → Prop) (us : List Value), (∀ x, M x → x < w.heap.size) → AV.reps Z M w ds us →
    Calls P f us.toArray w fun e w' => ∃ p vs, e = .returned (.pointer (some ⟨p, 0, none⟩)) ∧ w.heap.size ≤ p ∧ w'.heap[p]? = some (.cells vs T (0, 0)) ∧ RVs (fun q => M q ∨ w.heap.size ≤ q) w' cs vs.toList ∧ Below w.heap.size w w'
theorem w_new {f : FuncId} {xs : Array Operand} {ats : Array TypeId} {ds : List AV} {T : TypeId} {cs : List RV} (hm : Makes P f ds T cs) (hargs : CfL (getH H) (fun i => i) [] (xs.toList.map (evA (get E))) ds) (hf : callB P f = true) (hds : AV.idss ds = [])
    (hd : Nat.blt d N = true) (hg : Wanted ops (get E) ⟨some d, .call { callee := .value (.func f), args := xs, argTypes := ats }, ty, pos, af, g⟩ true)
    (h : wpA P L N ops chk Q l ⟨(d, .pt n 0) :: E, (n, some (.var T (cs.map .r))) :: H, n + 1⟩ ((n, ⟨true, [], .pt n 0, [], [.var T (cs.map .r)]⟩) :: tr)) :
    wpA P L N ops chk Q (⟨some d, .call { callee := .value (.func f), args := xs, argTypes := ats }, ty, pos, af, g⟩ :: l) ⟨E, H, n⟩ tr := by
  have hid : ∀ cs : List RV, AV.idss (cs.map .r) = [] := fun cs => by induction cs with | nil => rfl | cons c cs ih => rw [List.map_cons, AV.idss, ih]; rfl
  refine ⟨⟨true, [], .pt n 0, [], [.var T (cs.map .r)]⟩, ⟨fun x hx => ?_, hg, fun _ a w Z M hM hr hh hdist => ?_, (fun h => by cases h), fun D hD hDH hfree => ?_⟩, h⟩
  · injection hx with hx; subst hx; exact blt_t.1 hd
  · have hr' : ∀ x ∈ xs.toList, (evA (get E) x).rep Z M w (a.eval x) := fun x hx => hr x (by show x ∈ (#[Operand.func f] ++ xs).toList; rw [Array.toList_append]; exact List.mem_append_right _ hx)
    have hreps : AV.reps Z M w (xs.toList.map (evA (get E))) (xs.toList.map a.eval) := by
      revert hr'
      generalize xs.toList = ys
      intro hr'
      induction ys with
      | nil => rw [List.map_nil, AV.reps]; rfl
      | cons y ys ih => rw [List.map_cons, List.map_cons, AV.reps]; exact ⟨_, _, rfl, hr' y (by simp), ih fun x hx => hr' x (by simp [hx])⟩
    have hargs' := CfL.reps (Z := Z) (Z' := Z) (B := M) (B' := M) (w := w) (fun _ _ h => h) (fun j b hj hb => by cases hj) hargs (fun _ _ => rfl) _ hreps
    have hc := hm w Z M (xs.toList.map a.eval) hM hargs'
    refine exec_enter (exec_call hf a w) ?_
    have he : (xs.toList.map a.eval).toArray = xs.map a.eval := by rw [← Array.toList_map]
    rw [he] at hc
    refine hc.mono fun e w' ⟨p, vs, h1, h2, h3, h4, h5⟩ => ⟨_, h1, fun i => if i = n then .pointer (some ⟨p, 0, none⟩) else Z i, fun i hi => ?_, ?_, fun i b h => mem_nil h, fun j c hj => ?_, fun j j' q hj hj' hne => ?_, fun j q hj hq => .inl ?_, (Upto.of_below h5)⟩
    · have : i ≠ n := by simp at hi; omega
      simp [this]
    · simp only [AV.rep]
      exact ⟨p, by simp [blk], rfl⟩
    · have hj0 : j = 0 := by
        cases j with
        | zero => rfl
        | succ j => simp at hj
      subst hj0
      have : c = .var T (cs.map .r) := by simpa using hj.symm
      subst this
      have hr2 : ∀ (cs : List RV) (vs : List Value) (B : Nat → Prop), (∀ q, q < w'.heap.size → B q → M q ∨ w.heap.size ≤ q) → RVs (fun q => M q ∨ w.heap.size ≤ q) w' cs vs → AV.reps (fun i => if i = n then .pointer (some ⟨p, 0, none⟩) else Z i) B w' (cs.map .r) vs := by
        intro cs vs B hB h
        have h' := RVs.mono (Upto.refl _) hB h
        clear h
        induction h' with
        | nil => rw [List.map_nil, AV.reps]
        | cons h1 h2 _ ih => rw [List.map_cons, AV.reps]; exact ⟨_, _, rfl, by rw [AV.rep]; exact h2, ih⟩
      refine ⟨p, vs, by simp, h3, hr2 cs _ _ (fun q _ hq => ?_) h4, ?_⟩
      · rcases hq with h0 | ⟨j, hj, hq⟩
        · exact .inl h0
        · have : j = 0 := by simpa using hj
          subst this
          simp [blk] at hq
          exact .inr (by omega)
      · have := h4.one
        rw [Array.all_eq_true]
        intro i hi
        exact this _ (by simp)
    · simp at hj hj'; omega
    · have : j = 0 := by simpa using hj
      subst this
      simp [blk] at hq
      omega
  · refine ⟨fun i b h => mem_nil h, fun i o h => mem_nil h, fun i o h => mem_nil h, fun i h => mem_nil h, hfree, fun i hi => .inr ?_, fun c hc i hi => .inl ?_, fun i b h => mem_nil h⟩
    · have : i = n := by simpa [AV.ids] using hi
      subst this; simp
    · have : c = .var T (cs.map .r) := by simpa using hc
      subst this
      rw [Blk.ids, hid] at hi
      cases hi
end

theorem thenA_ret {K : St → Prop} {Q : Exit → St → Prop} {S : St} (h : Q .ret S) : thenA K Q .ret S := h
theorem blockA_ret {i : Nat} {Q : Exit → St → Prop} {S : St} (h : Q .ret S) : blockA i Q .ret S := h
/-! ## A fresh slice that is only read from then on -/
theorem row_read {Z : Nat → Value} {B B' : Nat → Prop} {w : World} {j T sz : Nat} {es : List (List RV)} (h : held Z B w j (.row T sz es)) (hB : ∀ q, q < w.heap.size → B' q → B q) (hn : ∀ x, blk (Z j) = some x → ¬ B' x) : RV.rep B' w (.sl sz es) (Z j) := by
  obtain ⟨us, h1, h2, h3⟩ := h
  exact rows_of_own (n := 0) h1 h2 h3 hB hn
theorem Meets.freeze {P : Program} {f : FuncId} {args : List AV} {T sz : Nat} {es : List (List RV)} (h : Meets P f args [] (.fr T sz es) []) : Meets P f args [] (.r (.sl sz es)) [] := by
  intro w Z M k us hM hk hargs hpre hd
  refine (h w Z M k us hM hk hargs hpre hd).mono fun e w' ⟨v, he, Z', A⟩ => ⟨v, he, Z, fun _ _ => rfl, ?_, fun i b h => by simp [callSp, numdP] at h, fun j b h => by simp [callSp, AV.unfr] at h, fun j j' x h => by simp [callSp, AV.unfr] at h, fun j x h => by simp [callSp, AV.unfr] at h, A.upto⟩
  have h1 := A.out
  have h2 := A.fr 0 (.row T sz es) (by simp [callSp, AV.unfr])
  have h3 := A.fresh 0
  simp only [callSp, AV.unfr, AV.rep, Nat.add_zero] at h1 h2 h3 ⊢
  rw [h1]
  refine row_read h2 (fun q _ hq => hq.imp (fun h => h) (fun ⟨j, hj, _⟩ => by simp at hj)) fun x hx hn => ?_
  have h4 := h3 x (by simp) hx
  rcases hn with h0 | ⟨j, hj, _⟩
  · rcases h4 with h4 | ⟨i, hi, _⟩
    · have := hM x h0; omega
    · simp [numdP] at hi
  · simp at hj
theorem Meets.freeze2 {P : Program} {f : FuncId} {args : List AV} {T sz : Nat} {es : List (List RV)} {y : Value} (h : Meets P f args [] (.tu [.fr T sz es, .r (.v y)]) []) : Meets P f args [] (.tu [.r (.sl sz es), .r (.v y)]) [] := by
  intro w Z M k us hM hk hargs hpre hd
  refine (h w Z M k us hM hk hargs hpre hd).mono fun e w' ⟨v, he, Z', A⟩ => ⟨v, he, Z, fun _ _ => rfl, ?_, fun i b h => by simp [callSp, numdP] at h, fun j b h => by simp [callSp, AV.unfr, AV.unfrs] at h, fun j j' x h => by simp [callSp, AV.unfr, AV.unfrs] at h, fun j x h => by simp [callSp, AV.unfr, AV.unfrs] at h, A.upto⟩
  have h1 := A.out
  have h2 := A.fr 0 (.row T sz es) (by simp [callSp, AV.unfr, AV.unfrs])
  have h3 := A.fresh 0
  simp only [callSp, AV.unfr, AV.unfrs, AV.rep, AV.reps, Nat.add_zero] at h1 h2 h3 ⊢
  obtain ⟨us', e1, u, us2, e2, h5, e3⟩ := h1
  refine ⟨us', e1, u, us2, e2, ?_, ?_⟩
  · rw [h5]
    refine row_read h2 (fun q _ hq => hq.imp (fun h => h) (fun ⟨j, hj, _⟩ => by simp at hj)) fun x hx hn => ?_
    have h4 := h3 x (by simp) hx
    rcases hn with h0 | ⟨j, hj, _⟩
    · rcases h4 with h4 | ⟨i, hi, _⟩
      · have := hM x h0; omega
      · simp [numdP] at hi
    · simp at hj
  · obtain ⟨u', us3, e4, h6, e5⟩ := e3
    refine ⟨u', us3, e4, ?_, e5⟩
    rw [RV.rep] at h6 ⊢; exact h6

/-! ## What bears no slice -/
theorem vals_bys {T : Nat} (l : List UInt8) : (AV.fr T 1 (bys l)).vals := by
  simp only [AV.vals, bys, List.mem_map]
  rintro e ⟨b, _, rfl⟩ c hc
  simp only [List.mem_singleton] at hc
  exact ⟨_, hc⟩
theorem vals_v (x : Value) : (AV.r (.v x)).vals := by simp only [AV.vals]; exact ⟨x, rfl⟩
theorem vals_nil : AV.valss [] := by simp only [AV.valss]
theorem vals_cons {c : AV} {cs : List AV} (h : c.vals) (h' : AV.valss cs) : AV.valss (c :: cs) := by simp only [AV.valss]; exact ⟨h, h'⟩
theorem vals_tu {cs : List AV} (h : AV.valss cs) : (AV.tu cs).vals := by simp only [AV.vals]; exact h
theorem vals_ag {cs : List AV} (h : AV.valss cs) : (AV.ag cs).vals := by simp only [AV.vals]; exact h
end Go.Ab
