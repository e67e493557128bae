/- Texts of the second layer in one: Dr1 Dr2 Dr3. -/
import Derived.Calls
/- The number of draws never gets less: of computations, of steps, of calls. No conditions. -/
namespace Go.Dr
open Go
set_option linter.unusedVariables false
set_option linter.unusedSimpArgs false
set_option maxRecDepth 100000

def rw {α : Type} : Result α → World
  | .ok _ w => w
  | .halt _ w => w
theorem freeze_d (w : World) (a : Addr) (n : Nat) : (w.freeze a n).drawn = w.drawn := by unfold World.freeze; split <;> rfl
theorem viewStore_d {p : Program} {w w' : World} {a k : Addr} {u : TypeId} {v : Value} {b : Bool} {l : List Addr} (h : w.viewStore p a u k v b = .ok (w', l)) : w'.drawn = w.drawn := by
  unfold World.viewStore at h
  simp only [bind, Except.bind, pure, Except.pure] at h
  repeat' (first | (split at h) | cases h | rfl)
theorem farStore_d {p : Program} {w w' : World} {a : Addr} {v : Value} {b : Bool} {l : List Addr} (h : w.farStore p a v b = .ok (w', l)) : w'.drawn = w.drawn := by
  unfold World.farStore at h
  split at h
  · split at h
    · rename_i r hr
      injection h with h
      subst h
      exact viewStore_d hr
    · cases h
  · cases h
theorem ask_d {α : Type} : ∀ (k : Ask α) (w : World), w.drawn ≤ (w.ask k).2.drawn
  | .done a, w => Nat.le_refl _
  | .ask what range k, w => by
    rw [World.ask]
    split
    · exact ask_d _ w
    · exact Nat.le_trans (Nat.le_succ _) (ask_d _ { w with drawn := w.drawn + 1 })
theorem sys_d (w : World) (c : Sys) : w.drawn ≤ (w.sys c).2.drawn := by
  have h := ask_d (Kernel.perform c w.os) w
  unfold World.sys
  generalize w.ask (Kernel.perform c w.os) = r at h ⊢
  obtain ⟨⟨a, b⟩, w'⟩ := r
  cases a <;> first | exact Nat.le_refl _ | exact h
theorem run_d {α : Type} (p : Program) (s : Sem α) : ∀ (w : World), w.drawn ≤ (rw (s.run p w)).drawn := by
  induction s with
  | pure a => exact fun w => Nat.le_refl _
  | load m a k ih =>
    intro w
    rw [Sem.run]
    split
    · exact ih _ w
    · split
      · exact ih _ w
      · exact Nat.le_refl _
  | store m a v k ih =>
    intro w
    have key : w.drawn ≤ (rw (match w.cell? a with
      | some _ => if w.frozen? a then Result.halt (.unsupported (.unsafePointer "a write to bytes that a string shares")) w else k.run p (w.setCell a v)
      | none => match w.farStore p a v (m == .atomic) with
        | .ok (w, _) => k.run p w
        | .error h => .halt h w)).drawn := by
      split
      · split
        · exact Nat.le_refl _
        · exact ih (w.setCell a v)
      · split
        · rename_i w' l hf
          have := ih w'
          rw [farStore_d hf] at this
          exact this
        · exact Nat.le_refl _
    cases v <;> first | exact Nat.le_refl _ | exact key
  | new o k ih => exact fun w => ih w.heap.size { w with heap := w.heap.push o }
  | shape r k ih => exact fun w => ih _ w
  | freeze a n k ih => intro w; have := ih (w.freeze a n); rw [freeze_d] at this; exact this
  | frozen a k ih => exact fun w => ih _ w
  | getObj r k ih =>
    intro w
    rw [Sem.run]
    split
    · exact Nat.le_refl _
    · exact ih _ w
    · exact Nat.le_refl _
  | setObj r o k ih =>
    intro w
    rw [Sem.run]
    split
    · exact Nat.le_refl _
    · exact ih { w with heap := w.heap.setIfInBounds r o }
    · exact Nat.le_refl _
  | choose q k ih =>
    intro w
    rw [Sem.run]
    split
    · exact ih _ w
    · exact Nat.le_trans (Nat.le_succ _) (ih _ { w with drawn := w.drawn + 1 })
  | sys c k ih => exact fun w => Nat.le_trans (sys_d w c) (ih _ _)
  | program k ih => exact fun w => ih _ w
  | mark m k ih => exact fun w => ih w
  | halt h => exact fun w => Nat.le_refl _
theorem runT_fst {α : Type} (p : Program) (s : Sem α) : ∀ (w : World) (es : Array Event), (s.runT p w es).1 = s.run p w := by
  induction s with
  | pure a => exact fun w es => rfl
  | load m a k ih =>
    intro w es
    rw [Sem.run, Sem.runT]
    split
    · exact ih _ w _
    · split
      · exact ih _ w _
      · rfl
  | store m a v k ih =>
    intro w es
    cases v
    all_goals first
      | rfl
      | (simp only [Sem.run, Sem.runT]
         split
         · split
           · rfl
           · exact ih _ _
         · split
           · exact ih _ _
           · rfl)
  | new o k ih => exact fun w es => ih _ _ _
  | shape r k ih => exact fun w es => ih _ _ _
  | freeze a n k ih => exact fun w es => ih _ _
  | frozen a k ih => exact fun w es => ih _ _ _
  | getObj r k ih =>
    intro w es
    rw [Sem.run, Sem.runT]
    split
    · rfl
    · exact ih _ _ _
    · rfl
  | setObj r o k ih =>
    intro w es
    rw [Sem.run, Sem.runT]
    split
    · rfl
    · exact ih _ _
    · rfl
  | choose q k ih =>
    intro w es
    rw [Sem.run, Sem.runT]
    split
    · exact ih _ _ _
    · exact ih _ _ _
  | sys c k ih => exact fun w es => ih _ _ _
  | program k ih => exact fun w es => ih _ _ _
  | mark m k ih => exact fun w es => ih _ _
  | halt h => exact fun w es => rfl
section
variable {α : Type} {p : Program} {s : Sem α} {w w' : World} {es es' : Array Event} {a : α} {h : Halt}
end
end Go.Dr

/- The number of draws never gets less: of the steps of a goroutine. No conditions. -/
namespace Go.Dr
open Go
set_option linter.unusedVariables false
set_option linter.unusedSimpArgs false
set_option maxRecDepth 100000

def gw : GStep → World
  | .go _ w _ => w
  | .comm _ _ _ _ w _ => w
  | .spawn _ _ w _ => w
  | .count _ w _ => w
  | .timer _ _ w _ => w
  | .alone _ _ w _ => w
  | .newcoro _ _ _ w _ => w
  | .coroswitch _ _ _ w _ => w
  | .collect _ w _ => w
  | .watch _ w _ => w
  | .ended _ w _ => w
theorem after_gw (es : Array Event) (s : GStep) : gw (s.after es) = gw s := by cases s <;> rfl
/-- Not less than in w. -/
def gd (w : World) (s : GStep) : Prop := w.drawn ≤ (gw s).drawn
theorem gd_after {w : World} {s : GStep} {es : Array Event} (h : gd w s) : gd w (s.after es) := by unfold gd; rw [after_gw]; exact h
theorem gd_trans {w w' : World} {s : GStep} (h : w.drawn ≤ w'.drawn) (k : gd w' s) : gd w s := Nat.le_trans h k
theorem rT {α : Type} {p : Program} {s : Sem α} {w : World} {es es' : Array Event} {r : Result α} (e : s.runT p w es = (r, es')) : w.drawn ≤ (rw r).drawn := by
  have := run_d p s w
  rw [← runT_fst p s w es, e] at this
  exact this
theorem rR {α : Type} {p : Program} {s : Sem α} {w : World} {r : Result α} (e : s.run p w = r) : w.drawn ≤ (rw r).drawn := by subst e; exact run_d p s w

theorem gd_ite {w : World} {c : Prop} [Decidable c] {s t : GStep} (h1 : gd w s) (h2 : gd w t) : gd w (if c then s else t) := by split <;> assumption
theorem endThrow_d (fr : Frame) (m : String) (w : World) : gd w (endThrow fr m w) := Nat.le_refl _
theorem endWith_d (w : World) (fd : Nat) (t : ByteArray) (o : Outcome) : gd w (endWith w fd t o) := by
  have h := sys_d w (.write fd t)
  unfold endWith
  generalize w.sys (.write fd t) = q at h ⊢
  obtain ⟨a, w'⟩ := q
  cases a <;> dsimp only <;> (try split) <;> exact h
theorem endPrinting_d (p : Program) (fr : Frame) (v : Value) (w : World) : gd w (endPrinting p fr v w) := by
  unfold endPrinting
  dsimp only
  split <;> exact Nat.le_refl _
theorem endFatal_d (p : Program) (fr : Frame) (cs : List Frame) (dy : Option Dying) (m : String) (w : World) : gd w (endFatal p fr cs dy m w) := by
  unfold endFatal
  dsimp only
  split <;> rename_i e <;> exact rR e
theorem writeOn_d (p : Program) (fr : Frame) (d : Dying) (f : Fatal) (w : World) : gd w (writeOn p fr d f w) := by
  unfold writeOn
  dsimp only
  split
  · exact Nat.le_refl _
  · split <;> rename_i e <;> exact rT e
theorem die_d (p : Program) (fr : Frame) (d : Dying) (w : World) : gd w (die p fr d w) := by
  unfold die
  dsimp only
  split
  · exact writeOn_d _ _ _ _ _
  · split
    · split
      · exact Nat.le_refl _
      · exact endWith_d _ _ _ _
    · split
      · exact Nat.le_refl _
      · split <;> rename_i e <;> exact rR e
      · refine gd_after ?_
        simp only [runT_fst]
        generalize hr : Sem.run p _ w = r
        have hd := rR hr
        split <;> first | exact hd | exact gd_trans hd (endPrinting_d _ _ _ _) | exact Nat.le_refl _
      · exact Nat.le_refl _
theorem doReturn_d (p : Program) (b : Bool) (fr : Frame) (cs : List Frame) (dy : Option Dying) (v : Value) (w : World) : gd w (doReturn p b fr cs dy v w) := by
  unfold doReturn
  dsimp only
  repeat' (first | exact Nat.le_refl _ | split)
theorem callDeferred_d (p : Program) (fr : Frame) (cs : List Frame) (dy : Option Dying) (d : Deferred) (w : World) : gd w (callDeferred p fr cs dy d w) := by
  unfold callDeferred
  dsimp only
  refine gd_ite (Nat.le_refl _) ?_
  · refine gd_after ?_
    simp only [runT_fst]
    generalize hr : Sem.run p _ w = r
    have hd := rR hr
    repeat' (first | exact hd | exact gd_trans hd (endFatal_d _ _ _ _ _ _) | exact gd_trans hd (endThrow_d _ _ _) | split)
theorem unwind_d (p : Program) (b : Bool) (fr : Frame) (cs : List Frame) (dy : Option Dying) (w : World) : gd w (unwind p b fr cs dy w) := by
  unfold unwind
  dsimp only
  split
  · refine gd_after ?_
    simp only [runT_fst]
    generalize hr : Sem.run p _ w = r
    have hd := rR hr
    split <;> exact hd
  · exact callDeferred_d _ _ _ _ _ _
  · split
    · exact Nat.le_refl _
    · split
      · exact Nat.le_refl _
      · split
        · exact Nat.le_refl _
        · split
          · split
            · exact Nat.le_refl _
            · split <;> rename_i e <;> exact rR e
          · split
            · exact endPrinting_d _ _ _ _
            · exact Nat.le_refl _
    · split
      · exact doReturn_d _ _ _ _ _ _ _
      · refine gd_after ?_
        simp only [runT_fst]
        generalize hr : Sem.run p _ w = r
        have hd := rR hr
        split <;> first | exact hd | exact gd_trans hd (doReturn_d _ _ _ _ _ _ _)
theorem early_d (p : Program) (fr : Frame) (cs : List Frame) (dy : Option Dying) (g : Nat) (w : World) : gd w (early p fr cs dy g w) := by
  have notYet : ∀ w' : World, gd w' (match w'.heap[g]? with
    | some (.pending c elem) => GStep.go { frame := fr, callers := cs, status := .running, dying := dy } { w' with heap := w'.heap.setIfInBounds g (.cells c elem) }
    | _ => .ended (.stuck "early: the variable does not wait" (fr.pos p)) w') := fun w' => by split <;> exact Nat.le_refl _
  unfold early
  dsimp only
  repeat' (first | exact Nat.le_refl _ | exact notYet _ | (rename_i e; exact gd_trans (rR e) (notYet _)) | (rename_i e; exact rR e) | split)
section
variable {p : Program} {b l : Bool}
theorem apply_d (fr : Frame) (cs : List Frame) (dy : Option Dying) (s : Sem Next) (w : World) : gd w (stepG.apply p l fr cs dy s w) := by
  have hd : w.drawn ≤ (rw (if l then s.runT p w #[] else (s.run p w, #[])).1).drawn := by
    split
    · rw [runT_fst]; exact run_d p s w
    · exact run_d p s w
  unfold stepG.apply
  dsimp only
  generalize (if l then s.runT p w #[] else (s.run p w, #[])) = q at hd ⊢
  obtain ⟨r, es⟩ := q
  refine gd_after ?_
  dsimp only at hd ⊢
  repeat' (first | exact hd | exact gd_trans hd (endFatal_d _ _ _ _ _ _) | exact gd_trans hd (endThrow_d _ _ _) | exact gd_trans hd (early_d _ _ _ _ _ _) | split)
theorem oper_d (fr : Frame) (cs : List Frame) (dy : Option Dying) (w : World) : gd w (stepG.oper p l fr cs dy w) := by
  unfold stepG.oper
  split
  · exact Nat.le_refl _
  · split <;> exact apply_d _ _ _ _ _
theorem exec_d (fr : Frame) (cs : List Frame) (dy : Option Dying) (w : World) : gd w (stepG.exec p b l fr cs dy w) := by
  have leave : ∀ jump : Option Code, gd w (match fr.roundOf with
      | none => if jump matches none | some .ret then GStep.go { frame := { fr with mode := .returning }, callers := cs, status := .running, dying := dy } w else .ended (.stuck "exit, goto: no such block or label" (fr.pos p)) w
      | some l =>
        let (r, es) := (Instr.endRound l jump).runT p w #[]
        GStep.after (seen p fr.fn es) <| match r with
        | .ok v w => doReturn p b fr cs dy v w
        | .halt _ w => .ended (.stuck "range over a function: no such loop" (fr.pos p)) w) := by
    intro jump
    split
    · split <;> exact Nat.le_refl _
    · refine gd_after ?_
      simp only [runT_fst]
      generalize hr : Sem.run p _ w = r
      have hd := rR hr
      split
      · exact gd_trans hd (doReturn_d _ _ _ _ _ _ _)
      · exact hd
  unfold stepG.exec
  dsimp only
  split
  · exact leave none
  · exact leave (some .ret)
  · exact Nat.le_refl _
  · exact Nat.le_refl _
  · exact Nat.le_refl _
  · exact Nat.le_refl _
  · exact Nat.le_refl _
  · split
    · exact Nat.le_refl _
    · exact Nat.le_refl _
  · exact Nat.le_refl _
  · exact Nat.le_refl _
  · exact Nat.le_refl _
  · exact Nat.le_refl _
  · generalize exitTo _ _ = x
    cases x
    · exact leave (some (.exit _))
    · exact Nat.le_refl _
  · generalize gotoIn _ _ = x
    cases x
    · exact leave (some (.goto _))
    · exact Nat.le_refl _
  · refine gd_after ?_
    simp only [runT_fst]
    generalize hr : Sem.run p _ w = r
    have hd := rR hr
    split
    · exact gd_trans hd (apply_d _ _ _ _ _)
    · exact hd
  · exact Nat.le_refl _
  · exact apply_d _ _ _ _ _
  · refine gd_after ?_
    simp only [runT_fst]
    generalize hr : Sem.run p _ w = r
    have hd := rR hr
    split <;> exact hd
  · exact Nat.le_refl _
  · exact apply_d _ _ _ _ _
  · generalize Extern.next _ = x
    cases x
    · exact Nat.le_refl _
    · exact apply_d _ _ _ _ _
  · split
    · exact Nat.le_refl _
    · split <;> rename_i e <;> exact rR e
  · exact Nat.le_refl _
  · split
    · exact oper_d _ _ _ _
    · exact Nat.le_refl _
theorem stepG_d (g : Goroutine) (w : World) : gd w (stepG p b g w l) := by
  unfold stepG
  split
  split
  · exact die_d _ _ _ _
  · exact exec_d _ _ _ _
  · exact unwind_d _ _ _ _ _ _
end
end Go.Dr

/- The number of draws never gets less: of the machine's steps, of calls. No conditions. -/
namespace Go.Dr
open Go
set_option linter.unusedVariables false
set_option linter.unusedSimpArgs false
set_option maxRecDepth 100000

/-- Not less than in w, where there is a next machine. -/
def sd (w : World) (s : Stepped) : Prop := ∀ m, s = .next m → w.drawn ≤ m.world.drawn
theorem sd_next {w : World} {m : Machine} (h : w.drawn ≤ m.world.drawn) : sd w (.next m) := fun m' e => by cases e; exact h
theorem sd_ended {w w' : World} {o : Outcome} : sd w (.ended o w') := fun m' e => by cases e
theorem sd_trans {w w' : World} {s : Stepped} (h : w.drawn ≤ w'.drawn) (k : sd w' s) : sd w s := fun m e => Nat.le_trans h (k m e)
theorem communicate_d (p : Program) (rest : Rest) (gs : Array Goroutine) (i : Nat) (g : Goroutine) (cases_ : Array CommCase) (b : Bool) (shape : CommShape) (w : World) : sd w (communicate p rest gs i g cases_ b shape w).1 := by
  unfold communicate
  dsimp only
  split
  · exact sd_ended
  · split
    · split
      · split
        · rename_i w' hw
          refine sd_next ?_
          unfold waitingAt at hw
          split at hw
          · split at hw
            · cases hw; exact Nat.le_refl _
            · cases hw
          · cases hw; exact Nat.le_refl _
        · exact sd_ended
      · exact sd_next (Nat.le_refl _)
    · split
      · exact sd_ended
      · rename_i e
        have hd := rR e
        refine sd_trans hd ?_
        dsimp only [rw]
        repeat' (first | exact sd_ended | exact sd_next (Nat.le_refl _) | (rename_i e; exact sd_next (rR e)) | split)
theorem look_d (p : Program) (gs : Array Goroutine) (rest : Rest) (w : World) : sd w (look p gs rest w) := by
  unfold look
  dsimp only
  split
  · split
    · exact sd_ended
    · split
      · exact sd_ended
      · split
        · rename_i e
          exact sd_next (rR e)
        · exact sd_ended
        · exact sd_ended
  · exact sd_ended
theorem drain_d (w : World) (c : Nat) : (drain w c).2.drawn = w.drawn := by unfold drain; split <;> rfl
theorem retime_d (m : Machine) (k : Nat) (t : Timer) (a b : Nat) : (retime m k t a b).2.world.drawn = m.world.drawn := by
  unfold retime
  dsimp only
  split
  · rename_i c _
    exact drain_d m.world c
  · rfl
theorem timerOp_d {m m' : Machine} {op : TimerOp} {v : Value} (h : timerOp m op = .ok (v, m')) : m.world.drawn ≤ m'.world.drawn := by
  have named : ∀ (var : Addr) (m₀ : Machine) (f : Nat → Timer → Value × Machine), (∀ k t, m.world.drawn ≤ (f k t).2.world.drawn) → timerOp.named m var f = .ok (v, m') → m.world.drawn ≤ m'.world.drawn := by
    intro var m₀ f hf h
    unfold timerOp.named at h
    split at h
    · rename_i k _
      have e : f k (m.rest.timers.getD k default) = (v, m') := by injection h
      have := hf k (m.rest.timers.getD k default)
      rw [e] at this; exact this
    · cases h
  cases op with
  | new t =>
    simp only [timerOp] at h
    split at h
    · injection h with h; injection h with h1 h2; subst h2; exact Nat.le_refl _
    · split at h
      · split at h
        · cases h
        · injection h with h; injection h with h1 h2; subst h2; exact Nat.le_refl _
      · cases h
  | stop var =>
    simp only [timerOp] at h
    exact named var m _ (fun k t => by rw [retime_d]; exact Nat.le_refl _) h
  | reset var a b =>
    simp only [timerOp] at h
    split at h
    · rename_i m1 ho
      refine named var m _ (fun k t => ?_) h
      rw [retime_d]
      unfold timerOp.opened at ho
      split at ho
      · split at ho
        · cases ho; exact Nat.le_refl _
        · cases ho
      · cases ho; exact Nat.le_refl _
    · cases h
  | deadline a b c d =>
    simp only [timerOp] at h
    injection h with h; injection h with h1 h2; subst h2; exact Nat.le_refl _
theorem serve_d (p : Program) (m : Machine) (k : Nat) : sd m.world (serve p m k) := by
  unfold serve
  split
  · exact sd_ended
  · exact sd_next (Nat.le_refl _)
  · dsimp only
    split
    · exact sd_ended
    · exact sd_next (Nat.le_refl _)
theorem runT_d (p : Program) (m : Machine) (i : Nat) (l : Bool) : sd m.world (runT p m i l).1 := by
  have hg := stepG_d (p := p) (b := (i == 0)) (l := l) (m.gs.swapAt! i { (default : Goroutine) with status := .finished }).1 m.world
  unfold runT
  dsimp only
  generalize stepG p (i == 0) (m.gs.swapAt! i { (default : Goroutine) with status := .finished }).1 m.world l = s at hg ⊢
  cases s with
  | ended o w es => exact sd_ended
  | comm g cs b shape w es => exact sd_trans hg (communicate_d _ _ _ _ _ _ _ _ _)
  | go g w es => exact sd_next hg
  | spawn g c w es => exact sd_next hg
  | count g w es =>
    dsimp only
    split
    · exact sd_ended
    · exact sd_next hg
  | alone g on w es => exact sd_next hg
  | collect g w es => exact sd_trans hg (look_d _ _ _ _)
  | watch g w es => exact sd_next hg
  | newcoro g c d w es => exact sd_next hg
  | coroswitch g c b w es =>
    dsimp only
    repeat' (first | exact sd_ended | exact sd_next hg | split)
    all_goals (rename_i e; have := endThrow_d g.frame "coroswitch on exited coro" w; rw [e] at this; exact sd_next (Nat.le_trans hg this))
  | timer g op w es =>
    dsimp only
    split
    · rename_i v m1 e
      have := timerOp_d e
      exact sd_next (Nat.le_trans hg this)
    · repeat' (first | exact sd_ended | exact sd_next hg | split)
      all_goals (rename_i e; have := endThrow_d g.frame _ w; rw [e] at this; exact sd_next (Nat.le_trans hg this))
    · exact sd_ended
    · exact sd_ended
def vd (w : World) : Move → Prop
  | .goroutine m _ => w.drawn ≤ m.world.drawn
  | .machine s _ => sd w s
theorem vd_trans {w w' : World} {s : Move} (h : w.drawn ≤ w'.drawn) (k : vd w' s) : vd w s := by
  cases s with
  | goroutine m i => exact Nat.le_trans h k
  | machine s o => exact sd_trans h k
theorem askOn_d (p : Program) (m : Machine) : vd m.world (askOn p m) := by
  have pick : ∀ m' : Machine, vd m'.world (match (choose (.sched (runnable m.gs m.world.os.mono).length)).run p m'.world with
      | .halt _ w => Move.machine (.ended (.stuck "sched" "") w)
      | .ok k world =>
        if (runnable m.gs m.world.os.mono).length ≤ 1 then .goroutine { m' with world } ((runnable m.gs m.world.os.mono).getD k 0) else
        match (choose (.extern "sched.slice" 65536)).run p world with
        | .halt _ w => .machine (.ended (.stuck "sched.slice" "") w)
        | .ok n world => .goroutine { m' with world, rest := { m'.rest with slice := if n = 0 then none else some ((runnable m.gs m.world.os.mono).getD k 0, n) } } ((runnable m.gs m.world.os.mono).getD k 0)) := by
    intro m'
    split
    · exact sd_ended
    · rename_i e
      have hd := rR e
      split
      · exact hd
      · split
        · exact sd_ended
        · rename_i e2
          exact Nat.le_trans hd (rR e2)
  unfold askOn
  dsimp only
  split
  · exact sd_ended
  · rename_i k world e
    have hd := rR e
    refine vd_trans hd ?_
    dsimp only [rw]
    split
    · exact serve_d p { m with world } _
    · split
      · split
        · exact sd_next (Nat.le_refl _)
        · split
          · exact sd_next (Nat.le_refl _)
          · split <;> exact sd_ended
      · split
        · exact pick { m with world }
        · split
          · exact sd_ended
          · rename_i e2
            exact vd_trans (rR e2) (pick { m with world := _ })
          · rename_i e2
            exact sd_next (rR e2)
          · rename_i e2
            exact vd_trans (rR e2) (pick _)
theorem ask_d' (p : Program) (m : Machine) : vd m.world (ask p m) := by
  unfold ask
  split
  · split
    · exact sd_ended
    · rename_i w e
      have hd := rR e
      refine vd_trans hd ?_
      dsimp only [rw]
      have hl := look_d p m.gs m.rest w
      generalize look p m.gs m.rest w = s at hl ⊢
      cases s with
      | next m1 => exact vd_trans (hl m1 rfl) (askOn_d p m1)
      | ended o w' => exact sd_ended
    · rename_i e
      exact vd_trans (rR e) (askOn_d p { m with world := _ })
  · exact askOn_d p m
theorem move_d (p : Program) (m : Machine) : vd m.world (move p m) := by
  unfold move
  split
  · split
    · exact Nat.le_refl _
    · exact sd_ended
  · split
    · split
      · exact Nat.le_refl _
      · exact ask_d' p { m with rest := { m.rest with slice := none } }
    · exact ask_d' p m
theorem step_d {p : Program} {m m' : Machine} (h : step p m = .next m') : m.world.drawn ≤ m'.world.drawn := by
  have hm := move_d p m
  unfold step stepT at h
  generalize move p m = v at hm h
  cases v with
  | goroutine m1 i => exact Nat.le_trans hm (runT_d p m1 i true m' h)
  | machine s o => exact hm m' h
theorem steps_d {p : Program} {m m' : Machine} (h : Steps p m m') : m.world.drawn ≤ m'.world.drawn := by
  obtain ⟨n, h⟩ := h
  induction n generalizing m with
  | zero => rw [runN] at h; cases h; exact Nat.le_refl _
  | succ n ih =>
    rw [runN] at h
    generalize hs : step p m = s at h
    cases s with
    | next m1 => exact Nat.le_trans (step_d hs) (ih h)
    | ended o w => cases h
/-- A call that returns has drawn no less. -/
theorem calls_d {P : Program} {f : FuncId} {args : Array Value} {w : World} {R : Ending → World → Prop} (h : Calls P f args w R) (hr : ∀ e w', R e w' → ∃ v, e = .returned v) : Calls P f args w fun e w' => R e w' ∧ w.drawn ≤ w'.drawn := by
  intro cs
  obtain ⟨e, w', fr, h1, h2, h3⟩ := h cs
  obtain ⟨v, rfl⟩ := hr e w' h1
  exact ⟨_, w', fr, ⟨h1, steps_d h2⟩, h2, h3⟩
end Go.Dr
