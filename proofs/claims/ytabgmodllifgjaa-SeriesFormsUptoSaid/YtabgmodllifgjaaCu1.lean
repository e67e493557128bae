/- A loop over an iterator whose body never leaves it: what the iterator knows at its end (of the world) is handed to what follows. No conditions. -/
import Derived.RangeFuncNested
import Derived.RangeFuncBound
import Derived.RangeFuncCalls
import Derived.RangeFuncLeaves
namespace Go.Proofs.Ytabgmodllifgjaa
open Go.RowKit
set_option linter.unusedVariables false

/-- The word of an iterator that gives slices: all of them have come, and S holds of them in the world that it leaves. -/
def GivesW (F : Fence) (n : Nat) (P : Program) (g : Nat) (lb : Array Value) (Kp : World → World → Prop) (S : List Value → World → Prop) (N : Nat) (w : World) : Prop :=
  ∀ (l : Nat) (J : List Value → World → Prop) (W : World), Below w.heap.size w W → AbidesFrom W.heap.size J →
    (∀ pre v W1, J pre W1 → pre.length < N → (∃ A m c, v = .slice A m c) → YieldAt F (n - 1) P l #[v] W1 fun e W' => e = .returned (.bool true) ∧ J (pre ++ [v]) W' ∧ Kp W1 W') →
    J [] W →
    CallsIn F n P g (#[.func (.yield l) #[] #[]] ++ lb) W fun e W' => (∃ v, e = .returned v) ∧ ∃ xs, S xs W' ∧ J xs W'

theorem range_all {F : Fence} {n : Nat} {P : Program} {g : Operand} {p : Tmp} {assign body : Code} {Q : Exit → Act → World → Prop} {a : Act} {w : World}
    (hro : F.round = none) (h1 : 1 ≤ n) {gf : Nat} {lb : Array Value} (hg : a.eval g = .func (.func gf) #[] lb) (hFg : F.fn gf) (eg : ∀ args w, (callFunc gf args).run P w = .ok (.enter gf args) w)
    {Kp : World → World → Prop} {S : List Value → World → Prop} {N : Nat} {w0 : World} (hseq : GivesW F (n - 1) P gf lb Kp S N w0)
    (hKt : ∀ {A B C : World}, Kp A B → Kp B C → Kp A C) (hKb : ∀ (W : World) (l : Nat) (o o' : Obj), w.heap.size ≤ l → W.heap[l]? = some o → o.isCells = false → o.isWalk = false → Kp W (W.putObj l o')) (hb0 : Below w0.heap.size w0 w)
    (I : List Value → World → Prop) (hI : OwnFrom w.heap.size I) (hS : OwnFrom w.heap.size S) (h0 : I [] w) (a₁ : Value → Act)
    (hassign : ∀ (l : Nat) (v : Value) (W : World) (K : Act → World → Prop), K (a₁ v) W →
      assign.wpIn (F.inRound l) (n - 1 - 1) P (Exit.then K (fun _ _ _ => False)) { tmps := a.tmps.setIfInBounds p v, defers := [] } W)
    (hbody : ∀ (l : Nat) (pre : List Value) (v : Value) (W : World), I pre W → pre.length < N → (∃ A m c, v = .slice A m c) →
      body.wpIn (F.inRound l) (n - 1 - 1) P (fun e _ W' => e = .normal ∧ KeepsFrom w.heap.size W W' ∧ Kp W W' ∧ I (pre ++ [v]) W') (a₁ v) W)
    (hdone : ∀ (D : Nat) (xs : List Value) (W : World), w.heap.size ≤ D → S xs W → I xs W → W.heap[D]? = some (.deferred (some [])) → Q .normal { a with defers := { target := .collected D, args := #[] } :: a.defers } W) :
    (Code.rangeFunc g #[p] assign body).wpIn F n P Q a w := by
  refine wpIn_rangeFunc fun fn hfn => ?_
  rw [hro]
  -- the record of the loop lies behind the block for deferred calls
  let R : LoopState → Option Code → Loop := fun st pe => { state := st, pending := pe, fn, tmps := a.tmps, params := #[p], assign, body, defers := w.heap.size }
  let V := (w.alloc (.deferred (some []))).alloc (.loop (R .ready none))
  have rec0 : V.heap[w.heap.size + 1]? = some (.loop (R .ready none)) := by
    have := World.alloc_heap_new (w.alloc (.deferred (some []))) (.loop (R .ready none))
    rwa [World.size_alloc] at this
  have def0 : V.heap[w.heap.size]? = some (.deferred (some [])) := (Below.heap_alloc _ _ _ (by simp)).trans (World.alloc_heap_new w _)
  have inv0 : I [] V := hI.alloc _ (hI.alloc _ h0)
  have bel0 : Below w0.heap.size w0 V := hb0.trans ((((Below.refl _ w).alloc (Nat.le_refl _) _).alloc (by simp) _).mono hb0.size)
  have sizeV : V.heap.size = w.heap.size + 2 := by simp [V]
  let J : List Value → World → Prop := fun pre W => I pre W ∧ W.heap[w.heap.size + 1]? = some (.loop (R .ready none)) ∧ W.heap[w.heap.size]? = some (.deferred (some []))
  have abides : AbidesFrom V.heap.size J := by
    intro s A B row hs hgr hr
    have out : ∀ r, row = some r → w.heap.size ≤ r ∧ ∃ o : Obj, A.heap[r]? = some o ∧ o.isCells = false := fun r e => by
      obtain ⟨hge, o, ho, hw⟩ := hr r e
      exact ⟨by omega, o, ho, Obj.not_cells_of_walk hw⟩
    have keep : ∀ k, k < V.heap.size → k < A.heap.size → B.heap[k]? = A.heap[k]? := fun k hk hkA => hgr.block k hkA fun e => by
      obtain ⟨hge, _⟩ := hr k e.symm
      omega
    have l1 := (Array.getElem?_eq_some_iff.1 hs.2.1).1
    have l2 := (Array.getElem?_eq_some_iff.1 hs.2.2).1
    exact ⟨hI s A B row hs.1 hgr out, (keep _ (by omega) l1).trans hs.2.1, (keep _ (by omega) l2).trans hs.2.2⟩
  refine ⟨w.heap.size + 1, [{ target := .collected w.heap.size, args := #[] }], V, { target := .fn (.func gf) lb, args := #[.func (.yield (w.heap.size + 1)) #[] #[]] }, V, gf, #[.func (.yield (w.heap.size + 1)) #[] #[]] ++ lb, V, run_enterLoop_outer _ _ _ _ _, ?_, ?_, ?_, fun _ => h1, ?_⟩
  · simp only [resolve, hg]; simp [go_sem]
  · intro f' hf'
    simp [Target.leads] at hf'
    subst hf'
    exact hFg
  · simp [invoke, go_sem, eg]
  refine (hseq (w.heap.size + 1) J V bel0 abides ?_ ⟨inv0, rec0, def0⟩).mono ?_
  · -- a round
    rintro pre v W ⟨hi, hl, hk⟩ hlen hv
    have lt1 := (Array.getElem?_eq_some_iff.1 hl).1
    have ry := run_yield (P := P) (args := #[v]) hl rfl
    have e0 : ((R .ready none).params.zip #[v]).foldl (fun t (x : Tmp × Value) => t.setIfInBounds x.1 x.2) (R .ready none).tmps = a.tmps.setIfInBounds p v := by simp [R]
    refine ⟨fn, _, assign, body, ry, roundIn_of_wpIn hfn ?_⟩
    have e1 : (((R .ready none).params.zip #[v]).foldl (fun tmps (t, a) => tmps.setIfInBounds t a) (R .ready none).tmps) = a.tmps.setIfInBounds p v := by simp [R]
    rw [e1]
    refine hassign _ v W _ ⟨_, run_beginRound hl rfl, ?_⟩
    have hl2 : (W.putObj (w.heap.size + 1) (.loop { R .ready none with state := .busy })).heap[w.heap.size + 1]? = some (.loop { R .ready none with state := .busy }) := World.putObj_heap_same lt1
    have hk2 : (W.putObj (w.heap.size + 1) (.loop { R .ready none with state := .busy })).heap[w.heap.size]? = some (.deferred (some [])) := (World.putObj_heap_other (by omega)).trans hk
    have kp2 : Kp W (W.putObj (w.heap.size + 1) (.loop { R .ready none with state := .busy })) := hKb _ _ _ _ (by omega) hl rfl rfl
    refine wpIn_mono (hbody _ pre v _ (hI.putObj _ hi (by omega) hl rfl) hlen hv) ?_
    rintro e a3 W3 ⟨rfl, kf, kp3, hi3⟩
    have hl3 := kf.same _ _ (by omega) hl2 rfl
    have hk3 := kf.same _ _ (Nat.le_refl _) hk2 rfl
    have re := run_endRound (P := P) none hl3
    refine ⟨_, _, re, rfl, ⟨hI.putObj _ hi3 (by omega) hl3 rfl, World.putObj_heap_same (Array.getElem?_eq_some_iff.1 hl3).1, (World.putObj_heap_other (by omega)).trans hk3⟩, hKt (hKt kp2 kp3) (hKb _ _ _ _ (by omega) hl3 rfl rfl)⟩
  · -- behind the iterator
    rintro e W2 ⟨⟨v, rfl⟩, xs, hs, hi, hl, hk⟩
    refine ⟨none, _, run_endLoop (P := P) hl (by simp [R]), hdone _ xs _ (Nat.le_refl _) (hS.putObj _ hs (by omega) hl rfl) (hI.putObj _ hi (by omega) hl rfl) ((World.putObj_heap_other (by omega)).trans hk)⟩
end Go.Proofs.Ytabgmodllifgjaa
