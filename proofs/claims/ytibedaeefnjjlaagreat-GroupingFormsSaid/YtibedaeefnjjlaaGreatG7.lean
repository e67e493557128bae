/- Texts of the second layer in one: Dr2 Dr3 Ai8 Ab35. -/
import Derived.Test.YtibedaeefnjjlaaGreatG6
set_option maxRecDepth 100000
set_option linter.unusedVariables false
set_option linter.unusedSimpArgs false
namespace Go.Dr
open Go
def gw : GStep → World
 | .go _ w _ => w
 | .comm _ _ _ _ w _ => w
 | .spawn _ _ w _ => w
 | .count _ w _ => w
 | .timer _ _ w _ => w
 | .alone _ _ w _ => w
 | .newcoro _ _ _ w _ => w
 | .coroswitch _ _ _ w _ => w
 | .collect _ w _ => w
 | .watch _ w _ => w
 | .ended _ w _ => w
theorem zpB (es : Array Event) (s : GStep) : gw (s.after es) = gw s := by cases s <;> rfl
def gd (w : World) (s : GStep) : Prop := w.drawn ≤ (gw s).drawn
theorem zdq {w : World} {s : GStep} {es : Array Event} (h : gd w s) : gd w (s.after es) := by unfold gd; rw [zpB]; exact h
theorem zcN {w w' : World} {s : GStep} (h : w.drawn ≤ w'.drawn) (k : gd w' s) : gd w s := Nat.le_trans h k
theorem rT {α : Type} {p : Program} {s : Sem α} {w : World} {es es' : Array Event} {r : Result α} (e : s.runT p w es = (r, es')) : w.drawn ≤ (rw r).drawn := by
 have := zqk p s w
 rw [← zc6 p s w es, e] at this
 exact this
theorem rR {α : Type} {p : Program} {s : Sem α} {w : World} {r : Result α} (e : s.run p w = r) : w.drawn ≤ (rw r).drawn := by subst e; exact zqk p s w
theorem zs3 {w : World} {c : Prop} [Decidable c] {s t : GStep} (h1 : gd w s) (h2 : gd w t) : gd w (if c then s else t) := by split <;> assumption
theorem zeV (fr : Frame) (m : String) (w : World) : gd w (endThrow fr m w) := Nat.le_refl _
theorem znV (w : World) (fd : Nat) (t : ByteArray) (o : Outcome) : gd w (endWith w fd t o) := by
 have h := ztE w (.write fd t)
 unfold endWith
 generalize w.sys (.write fd t) = q at h ⊢
 obtain ⟨a, w'⟩ := q
 cases a <;> dsimp only <;> (try split) <;> exact h
theorem zfI (p : Program) (fr : Frame) (v : Value) (w : World) : gd w (endPrinting p fr v w) := by
 unfold endPrinting
 dsimp only
 split <;> exact Nat.le_refl _
theorem zh8 (p : Program) (fr : Frame) (cs : List Frame) (dy : Option Dying) (m : String) (w : World) : gd w (endFatal p fr cs dy m w) := by
 unfold endFatal
 dsimp only
 split <;> rename_i e <;> exact rR e
theorem zpy (p : Program) (fr : Frame) (d : Dying) (f : Fatal) (w : World) : gd w (writeOn p fr d f w) := by
 unfold writeOn
 dsimp only
 split
 ·exact Nat.le_refl _
 ·split <;> rename_i e <;> exact rT e
theorem ztS (p : Program) (fr : Frame) (d : Dying) (w : World) : gd w (die p fr d w) := by
 unfold die
 dsimp only
 split
 ·exact zpy _ _ _ _ _
 ·split
  ·split
   ·exact Nat.le_refl _
   ·exact znV _ _ _ _
  ·split
   ·exact Nat.le_refl _
   ·split <;> rename_i e <;> exact rR e
   ·refine zdq ?_
    simp only [zc6]
    generalize hr : Sem.run p _ w = r
    have hd := rR hr
    split <;> first | exact hd | exact zcN hd (zfI _ _ _ _) | exact Nat.le_refl _
   ·exact Nat.le_refl _
theorem zgb (p : Program) (b : Bool) (fr : Frame) (cs : List Frame) (dy : Option Dying) (v : Value) (w : World) : gd w (doReturn p b fr cs dy v w) := by
 unfold doReturn
 dsimp only
 repeat' (first | exact Nat.le_refl _ | split)
theorem zhV (p : Program) (fr : Frame) (cs : List Frame) (dy : Option Dying) (d : Deferred) (w : World) : gd w (callDeferred p fr cs dy d w) := by
 unfold callDeferred
 dsimp only
 refine zs3 (Nat.le_refl _) ?_
 ·refine zdq ?_
  simp only [zc6]
  generalize hr : Sem.run p _ w = r
  have hd := rR hr
  repeat' (first | exact hd | exact zcN hd (zh8 _ _ _ _ _ _) | exact zcN hd (zeV _ _ _) | split)
theorem zqy (p : Program) (b : Bool) (fr : Frame) (cs : List Frame) (dy : Option Dying) (w : World) : gd w (unwind p b fr cs dy w) := by
 unfold unwind
 dsimp only
 split
 ·refine zdq ?_
  simp only [zc6]
  generalize hr : Sem.run p _ w = r
  have hd := rR hr
  split <;> exact hd
 ·exact zhV _ _ _ _ _ _
 ·split
  ·exact Nat.le_refl _
  ·split
   ·exact Nat.le_refl _
   ·split
    ·exact Nat.le_refl _
    ·split
     ·split
      ·exact Nat.le_refl _
      ·split <;> rename_i e <;> exact rR e
     ·split
      ·exact zfI _ _ _ _
      ·exact Nat.le_refl _
  ·split
   ·exact zgb _ _ _ _ _ _ _
   ·refine zdq ?_
    simp only [zc6]
    generalize hr : Sem.run p _ w = r
    have hd := rR hr
    split <;> first | exact hd | exact zcN hd (zgb _ _ _ _ _ _ _)
theorem zrw (p : Program) (fr : Frame) (cs : List Frame) (dy : Option Dying) (g : Nat) (w : World) : gd w (early p fr cs dy g w) := by
 have notYet : ∀ w' : World, gd w' (match w'.heap[g]? with
  | some (.pending c elem) => GStep.go { frame := fr, callers := cs, status := .running, dying := dy } { w' with heap := w'.heap.setIfInBounds g (.cells c elem) }
  | _ => .ended (.stuck "early: the variable does not wait" (fr.pos p)) w') := fun w' => by split <;> exact Nat.le_refl _
 unfold early
 dsimp only
 repeat' (first | exact Nat.le_refl _ | exact notYet _ | (rename_i e; exact zcN (rR e) (notYet _)) | (rename_i e; exact rR e) | split)
section
variable {p : Program} {b l : Bool}
theorem zgW (fr : Frame) (cs : List Frame) (dy : Option Dying) (s : Sem Next) (w : World) : gd w (stepG.apply p l fr cs dy s w) := by
 have hd : w.drawn ≤ (rw (if l then s.runT p w #[] else (s.run p w, #[])).1).drawn := by
  split
  ·rw [zc6]; exact zqk p s w
  ·exact zqk p s w
 unfold stepG.apply
 dsimp only
 generalize (if l then s.runT p w #[] else (s.run p w, #[])) = q at hd ⊢
 obtain ⟨r, es⟩ := q
 refine zdq ?_
 dsimp only at hd ⊢
 repeat' (first | exact hd | exact zcN hd (zh8 _ _ _ _ _ _) | exact zcN hd (zeV _ _ _) | exact zcN hd (zrw _ _ _ _ _ _) | split)
theorem zti (fr : Frame) (cs : List Frame) (dy : Option Dying) (w : World) : gd w (stepG.oper p l fr cs dy w) := by
 unfold stepG.oper
 split
 ·exact Nat.le_refl _
 ·split <;> exact zgW _ _ _ _ _
theorem zs0 (fr : Frame) (cs : List Frame) (dy : Option Dying) (w : World) : gd w (stepG.exec p b l fr cs dy w) := by
 have leave : ∀ jump : Option Code, gd w (match fr.roundOf with
   | none => if jump matches none | some .ret then GStep.go { frame := { fr with mode := .returning }, callers := cs, status := .running, dying := dy } w else .ended (.stuck "exit, goto: no such block or label" (fr.pos p)) w
   | some l =>
    let (r, es) := (Instr.endRound l jump).runT p w #[]
    GStep.after (seen p fr.fn es) <| match r with
    | .ok v w => doReturn p b fr cs dy v w
    | .halt _ w => .ended (.stuck "range over a function: no such loop" (fr.pos p)) w) := by
  intro jump
  split
  ·split <;> exact Nat.le_refl _
  ·refine zdq ?_
   simp only [zc6]
   generalize hr : Sem.run p _ w = r
   have hd := rR hr
   split
   ·exact zcN hd (zgb _ _ _ _ _ _ _)
   ·exact hd
 unfold stepG.exec
 dsimp only
 split
 ·exact leave none
 ·exact leave (some .ret)
 ·exact Nat.le_refl _
 ·exact Nat.le_refl _
 ·exact Nat.le_refl _
 ·exact Nat.le_refl _
 ·exact Nat.le_refl _
 ·split
  ·exact Nat.le_refl _
  ·exact Nat.le_refl _
 ·exact Nat.le_refl _
 ·exact Nat.le_refl _
 ·exact Nat.le_refl _
 ·exact Nat.le_refl _
 ·generalize exitTo _ _ = x
  cases x
  ·exact leave (some (.exit _))
  ·exact Nat.le_refl _
 ·generalize gotoIn _ _ = x
  cases x
  ·exact leave (some (.goto _))
  ·exact Nat.le_refl _
 ·refine zdq ?_
  simp only [zc6]
  generalize hr : Sem.run p _ w = r
  have hd := rR hr
  split
  ·exact zcN hd (zgW _ _ _ _ _)
  ·exact hd
 ·exact Nat.le_refl _
 ·exact zgW _ _ _ _ _
 ·refine zdq ?_
  simp only [zc6]
  generalize hr : Sem.run p _ w = r
  have hd := rR hr
  split <;> exact hd
 ·exact Nat.le_refl _
 ·exact zgW _ _ _ _ _
 ·generalize Extern.next _ = x
  cases x
  ·exact Nat.le_refl _
  ·exact zgW _ _ _ _ _
 ·split
  ·exact Nat.le_refl _
  ·split <;> rename_i e <;> exact rR e
 ·exact Nat.le_refl _
 ·split
  ·exact zti _ _ _ _
  ·exact Nat.le_refl _
theorem zsC (g : Goroutine) (w : World) : gd w (stepG p b g w l) := by
 unfold stepG
 split
 split
 ·exact ztS _ _ _ _
 ·exact zs0 _ _ _ _
 ·exact zqy _ _ _ _ _ _
end
def sd (w : World) (s : Stepped) : Prop := ∀ m, s = .next m → w.drawn ≤ m.world.drawn
theorem zbG {w : World} {m : Machine} (h : w.drawn ≤ m.world.drawn) : sd w (.next m) := fun m' e => by cases e; exact h
theorem za2 {w w' : World} {o : Outcome} : sd w (.ended o w') := fun m' e => by cases e
theorem zgP {w w' : World} {s : Stepped} (h : w.drawn ≤ w'.drawn) (k : sd w' s) : sd w s := fun m e => Nat.le_trans h (k m e)
theorem ziQ (p : Program) (rest : Rest) (gs : Array Goroutine) (i : Nat) (g : Goroutine) (cases_ : Array CommCase) (b : Bool) (shape : CommShape) (w : World) : sd w (communicate p rest gs i g cases_ b shape w).1 := by
 unfold communicate
 dsimp only
 split
 ·exact za2
 ·split
  ·split
   ·split
    ·rename_i w' hw
     refine zbG ?_
     unfold waitingAt at hw
     split at hw
     ·split at hw
      ·cases hw; exact Nat.le_refl _
      ·cases hw
     ·cases hw; exact Nat.le_refl _
    ·exact za2
   ·exact zbG (Nat.le_refl _)
  ·split
   ·exact za2
   ·rename_i e
    have hd := rR e
    refine zgP hd ?_
    dsimp only [rw]
    repeat' (first | exact za2 | exact zbG (Nat.le_refl _) | (rename_i e; exact zbG (rR e)) | split)
theorem zqQ (p : Program) (gs : Array Goroutine) (rest : Rest) (w : World) : sd w (look p gs rest w) := by
 unfold look
 dsimp only
 split
 ·split
  ·exact za2
  ·split
   ·exact za2
   ·split
    ·rename_i e
     exact zbG (rR e)
    ·exact za2
    ·exact za2
 ·exact za2
theorem zrv (w : World) (c : Nat) : (drain w c).2.drawn = w.drawn := by unfold drain; split <;> rfl
theorem zmj (m : Machine) (k : Nat) (t : Timer) (a b : Nat) : (retime m k t a b).2.world.drawn = m.world.drawn := by
 unfold retime
 dsimp only
 split
 ·rename_i c _
  exact zrv m.world c
 ·rfl
theorem zpf {m m' : Machine} {op : TimerOp} {v : Value} (h : timerOp m op = .ok (v, m')) : m.world.drawn ≤ m'.world.drawn := by
 have named : ∀ (var : Addr) (m₀ : Machine) (f : Nat → Timer → Value × Machine), (∀ k t, m.world.drawn ≤ (f k t).2.world.drawn) → timerOp.named m var f = .ok (v, m') → m.world.drawn ≤ m'.world.drawn := by
  intro var m₀ f hf h
  unfold timerOp.named at h
  split at h
  ·rename_i k _
   have e : f k (m.rest.timers.getD k default) = (v, m') := by injection h
   have := hf k (m.rest.timers.getD k default)
   rw [e] at this; exact this
  ·cases h
 cases op with
 | new t =>
  simp only [timerOp] at h
  split at h
  ·injection h with h; injection h with h1 h2; subst h2; exact Nat.le_refl _
  ·split at h
   ·split at h
    ·cases h
    ·injection h with h; injection h with h1 h2; subst h2; exact Nat.le_refl _
   ·cases h
 | stop var =>
  simp only [timerOp] at h
  exact named var m _ (fun k t => by rw [zmj]; exact Nat.le_refl _) h
 | reset var a b =>
  simp only [timerOp] at h
  split at h
  ·rename_i m1 ho
   refine named var m _ (fun k t => ?_) h
   rw [zmj]
   unfold timerOp.opened at ho
   split at ho
   ·split at ho
    ·cases ho; exact Nat.le_refl _
    ·cases ho
   ·cases ho; exact Nat.le_refl _
  ·cases h
 | deadline a b c d =>
  simp only [timerOp] at h
  injection h with h; injection h with h1 h2; subst h2; exact Nat.le_refl _
theorem zsx (p : Program) (m : Machine) (k : Nat) : sd m.world (serve p m k) := by
 unfold serve
 split
 ·exact za2
 ·exact zbG (Nat.le_refl _)
 ·dsimp only
  split
  ·exact za2
  ·exact zbG (Nat.le_refl _)
theorem ztv (p : Program) (m : Machine) (i : Nat) (l : Bool) : sd m.world (runT p m i l).1 := by
 have hg := zsC (p := p) (b := (i == 0)) (l := l) (m.gs.swapAt! i { (default : Goroutine) with status := .finished }).1 m.world
 unfold runT
 dsimp only
 generalize stepG p (i == 0) (m.gs.swapAt! i { (default : Goroutine) with status := .finished }).1 m.world l = s at hg ⊢
 cases s with
 | ended o w es => exact za2
 | comm g cs b shape w es => exact zgP hg (ziQ _ _ _ _ _ _ _ _ _)
 | go g w es => exact zbG hg
 | spawn g c w es => exact zbG hg
 | count g w es =>
  dsimp only
  split
  ·exact za2
  ·exact zbG hg
 | alone g on w es => exact zbG hg
 | collect g w es => exact zgP hg (zqQ _ _ _ _)
 | watch g w es => exact zbG hg
 | newcoro g c d w es => exact zbG hg
 | coroswitch g c b w es =>
  dsimp only
  repeat' (first | exact za2 | exact zbG hg | split)
  all_goals (rename_i e; have := zeV g.frame "coroswitch on exited coro" w; rw [e] at this; exact zbG (Nat.le_trans hg this))
 | timer g op w es =>
  dsimp only
  split
  ·rename_i v m1 e
   have := zpf e
   exact zbG (Nat.le_trans hg this)
  ·repeat' (first | exact za2 | exact zbG hg | split)
   all_goals (rename_i e; have := zeV g.frame _ w; rw [e] at this; exact zbG (Nat.le_trans hg this))
  ·exact za2
  ·exact za2
def vd (w : World) : Move → Prop
 | .goroutine m _ => w.drawn ≤ m.world.drawn
 | .machine s _ => sd w s
theorem zff {w w' : World} {s : Move} (h : w.drawn ≤ w'.drawn) (k : vd w' s) : vd w s := by
 cases s with
 | goroutine m i => exact Nat.le_trans h k
 | machine s o => exact zgP h k
theorem zkA (p : Program) (m : Machine) : vd m.world (askOn p m) := by
 have pick : ∀ m' : Machine, vd m'.world (match (choose (.sched (runnable m.gs m.world.os.mono).length)).run p m'.world with
   | .halt _ w => Move.machine (.ended (.stuck "sched" "") w)
   | .ok k world =>
    if (runnable m.gs m.world.os.mono).length ≤ 1 then .goroutine { m' with world } ((runnable m.gs m.world.os.mono).getD k 0) else
    match (choose (.extern "sched.slice" 65536)).run p world with
    | .halt _ w => .machine (.ended (.stuck "sched.slice" "") w)
    | .ok n world => .goroutine { m' with world, rest := { m'.rest with slice := if n = 0 then none else some ((runnable m.gs m.world.os.mono).getD k 0, n) } } ((runnable m.gs m.world.os.mono).getD k 0)) := by
  intro m'
  split
  ·exact za2
  ·rename_i e
   have hd := rR e
   split
   ·exact hd
   ·split
    ·exact za2
    ·rename_i e2
     exact Nat.le_trans hd (rR e2)
 unfold askOn
 dsimp only
 split
 ·exact za2
 ·rename_i k world e
  have hd := rR e
  refine zff hd ?_
  dsimp only [rw]
  split
  ·exact zsx p { m with world } _
  ·split
   ·split
    ·exact zbG (Nat.le_refl _)
    ·split
     ·exact zbG (Nat.le_refl _)
     ·split <;> exact za2
   ·split
    ·exact pick { m with world }
    ·split
     ·exact za2
     ·rename_i e2
      exact zff (rR e2) (pick { m with world := _ })
     ·rename_i e2
      exact zbG (rR e2)
     ·rename_i e2
      exact zff (rR e2) (pick _)
theorem zqC (p : Program) (m : Machine) : vd m.world (ask p m) := by
 unfold ask
 split
 ·split
  ·exact za2
  ·rename_i w e
   have hd := rR e
   refine zff hd ?_
   dsimp only [rw]
   have hl := zqQ p m.gs m.rest w
   generalize look p m.gs m.rest w = s at hl ⊢
   cases s with
   | next m1 => exact zff (hl m1 rfl) (zkA p m1)
   | ended o w' => exact za2
  ·rename_i e
   exact zff (rR e) (zkA p { m with world := _ })
 ·exact zkA p m
theorem ztf (p : Program) (m : Machine) : vd m.world (move p m) := by
 unfold move
 split
 ·split
  ·exact Nat.le_refl _
  ·exact za2
 ·split
  ·split
   ·exact Nat.le_refl _
   ·exact zqC p { m with rest := { m.rest with slice := none } }
  ·exact zqC p m
theorem ztD {p : Program} {m m' : Machine} (h : step p m = .next m') : m.world.drawn ≤ m'.world.drawn := by
 have hm := ztf p m
 unfold step stepT at h
 generalize move p m = v at hm h
 cases v with
 | goroutine m1 i => exact Nat.le_trans hm (ztv p m1 i true m' h)
 | machine s o => exact hm m' h
theorem zsD {p : Program} {m m' : Machine} (h : Steps p m m') : m.world.drawn ≤ m'.world.drawn := by
 obtain ⟨n, h⟩ := h
 induction n generalizing m with
 | zero => rw [runN] at h; cases h; exact Nat.le_refl _
 | succ n ih =>
  rw [runN] at h
  generalize hs : step p m = s at h
  cases s with
  | next m1 => exact Nat.le_trans (ztD hs) (ih h)
  | ended o w => cases h
theorem calls_d {P : Program} {f : FuncId} {args : Array Value} {w : World} {R : Ending → World → Prop} (h : Calls P f args w R) (hr : ∀ e w', R e w' → ∃ v, e = .returned v) : Calls P f args w fun e w' => R e w' ∧ w.drawn ≤ w'.drawn := by
 intro cs
 obtain ⟨e, w', fr, h1, h2, h3⟩ := h cs
 obtain ⟨v, rfl⟩ := hr e w' h1
 exact ⟨_, w', fr, ⟨h1, zsD h2⟩, h2, h3⟩
end Go.Dr
namespace Go.Ab
open Go.RowKit
def LeX (S T : St) : Prop := ∀ C F a w, C.ln = ⟨0, 0⟩ → SimX C S F a w → SimX C T F a w
theorem LeX.mk {S T : St} (l : List (Nat × Nat)) (G : List Nat) (hn : zbv ⟨0, 0⟩ T (rho l) G = true) (he : eLe S (rho l) G T.env) (hh : hLe S (rho l) G T.H) : LeX S T :=
 fun C F a w hl h => h.weaken hl T l G (by rw [hl]; exact hn) he hh
section
variable {P : Program} {N : Nat} {Q : Exit → St → Fam → Prop} {S T : St} {F : Fam} {c d : Code}
theorem zh3 (hf : zkL S = true) (h : awp P ⟨S.nx, S.nx⟩ N c (fun e S' => e = .normal ∧ LeX S' T) S) (k : Q .normal T F) : awpX P N c Q S F :=
 fun C h1 h2 h3 a w hs => Code.wp_mono (fun e a' w' ⟨S', F', ⟨e1, F1, hle⟩, h5⟩ => by
  subst e1 F1
  exact ⟨T, _, k, hle C _ a' w' h2 h5⟩) (zgY (Q := fun e S' F' => e = .normal ∧ F' = F ∧ LeX S' T) hf (ziI h fun e S' h => ⟨h.1, rfl, h.2⟩) C h1 h2 h3 a w hs)
theorem zbe (hf : zkL S = true) (h : awp P ⟨S.nx, S.nx⟩ N c (fun e S' => e = .normal ∧ LeX S' T) S) (k : awpX P N d Q T F) : awpX P N (.seq c d) Q S F :=
 zcL (zh3 hf h k)
theorem zdT {S' : St} (h : LeX S S') (k : awpX P N c Q S' F) : awpX P N c Q S F := zkC S' F (fun C a w hl hs => h C F a w hl hs) k
theorem znl {i t sz : Nat} {es : List (List RV)} {e : List RV} (hi : S.HF i = some (.row t sz (es ++ [e]))) (k : awpX P N c Q ⟨S.env, (i, some (.rowo t sz es (e.map AV.r))) :: S.H, S.nx⟩ F) : awpX P N c Q S F :=
 zkC _ _ (fun C a w hl hs => hs.rowo hl hi) k
theorem zjA {E : List (Nat × AV)} {H : List (Nat × Option Blk)} {n : Nat} {v : Value} {b : Blk} {F1 F2 : Fam} (hS : S = ⟨envL n v E, blkL n v H, n⟩) (k : awpX P N c Q ⟨E, (n, some b) :: H, n + 1⟩ (F1 ++ F2)) : awpX P N c Q S (F1 ++ (v, b) :: F2) := by
 subst hS
 exact zkC _ _ (fun C a w hl hs => hs.take hl) k
theorem zgF {E : List (Nat × AV)} {H : List (Nat × Option Blk)} {n q : Nat} {b : Blk} {F1 F2 : Fam} (hq : getH H q = some b) (hb : b.ids = []) (k : ∀ v, awpX P N c Q ⟨envL q v E, (q, none) :: blkL q v H, n⟩ (F1 ++ (v, b) :: F2)) : awpX P N c Q ⟨E, H, n⟩ (F1 ++ F2) :=
 znn (fun v => ⟨envL q v E, (q, none) :: blkL q v H, n⟩) (fun v => F1 ++ (v, b) :: F2) (fun C a w hl hs => hs.put hl hq hb) k
theorem znm {x y : Code} {α : Type} (I : α → Prop) (T : α → St) (F' : α → Fam) (h : awpX P N x (zsE (fun S1 F1 => ∃ z, I z ∧ S1 = T z ∧ F1 = F' z) Q) S F) (k : ∀ z, I z → awpX P N y Q (T z) (F' z)) : awpX P N (.seq x y) Q S F :=
 zcL (znk h fun e S1 F1 h => by
  cases e with
  | normal => obtain ⟨z, hz, rfl, rfl⟩ := h; exact k z hz
  | exit id => exact h
  | goto l => exact h
  | ret => exact h
  | panic ch => exact h
  | outgrown => exact h)
theorem zjy {φ : Prop} (hS : ∀ C a w, SimX C S F a w → φ) (k : φ → awpX P N c Q S F) : awpX P N c Q S F := fun C h1 h2 h3 a w hs => k (hS C a w hs) C h1 h2 h3 a w hs
theorem SimX.slice {C : Cx} {a : Act} {w : World} {F1 F2 : Fam} {v : Value} {t sz : Nat} {es : List (List RV)} (h : SimX C S (F1 ++ (v, .row t sz es) :: F2) a w) : ∃ A m c, v = .slice A m c := by
 obtain ⟨Z, K, h⟩ := h
 have hmid : (F1 ++ (v, Blk.row t sz es) :: F2)[F1.length]? = some (v, Blk.row t sz es) := by rw [List.getElem?_append_right (Nat.le_refl _), Nat.sub_self]; rfl
 obtain ⟨f1, _⟩ := h.fam _ _ hmid
 obtain ⟨us, ⟨_, h1⟩, _⟩ := (h.sim.holds _ _ (h.fm hmid)).1
 rw [f1] at h1
 rcases h1 with ⟨e, _⟩ | ⟨g, cap, cur, e, _⟩
 ·exact ⟨_, _, _, e⟩
 ·exact ⟨_, _, _, e⟩
end
section
variable {P : Program} {env : Nat → AV} {H : Nat → Option Blk} {d : Option Tmp} {ty : TypeId} {pos : String} {af : Array Edge} {g : Option (Nat × Bool)} {t : TypeId} {x : Operand} {cs : List RV}
theorem zl4 {n : Nat} [AgT P t n] (hx : evA env x = .rp cs) (hl : n ≤ cs.length) : zax P ⟨d, .load t x, ty, pos, af, g⟩ env H [] (.ag ((cs.take n).map .r)) := by
 obtain ⟨D, hu, hD⟩ := AgT.und (P := P) (t := t) (n := n)
 have hs : (P.info? t).map (·.size) = some (cs.take n).length := by rw [AgT.size, List.length_take, Nat.min_eq_left hl]
 refine ⟨fun i b h => by simp at h, fun i hi => ?_, fun a w Z M hr _ => ?_⟩
 ·exfalso
  have : ∀ l : List RV, AV.idss (l.map .r) = [] := by
   intro l
   induction l with
   | nil => rfl
   | cons x l ih => simp [AV.idss, AV.ids, ih]
  rw [AV.ids, this] at hi
  cases hi
 have h1 := hr x (by simp [Op.operands])
 rw [hx, AV.rep] at h1
 obtain ⟨ad, h2, h3, h4, h5⟩ := h1
 have h5' : RV.row M w (cs.take n) ad 0 := (RV.row_iff ad (cs.take n) 0).2 fun k c hk => (RV.row_iff ad cs 0).1 h5 k c (by
  rw [List.getElem?_take] at hk
  split at hk
  ·exact hk
  ·cases hk)
 obtain ⟨us, h6, h7⟩ := (RV.row_vals ad (cs.take n) 0).1 h5'
 have hl : (loadCells ad us.length).run P w = .ok us.toArray w := run_loadCells_list (P := P) w ad us (fun j v hv => by have := h7 j v hv; rwa [Nat.zero_add] at this)
 refine ⟨.agg us.toArray, ?_, by rw [AV.rep]; exact ⟨_, rfl, zgO h6⟩⟩
 have hagg : (isAgg t).run P w = .ok true w := by
  simp only [isAgg, Sem.run_bind, run_underlying hu, Result.andThen_ok]
  cases D <;> first | rfl | (simp [zcU] at hD)
 have hz : (sizeOf t).run P w = .ok us.length w := by rw [run_sizeOf hs, h6.len]
 simp only [execOp, h2, Instr.loadAt, Instr.sureAddr, loadVar, Sem.run_bind, Sem.run_pure, Result.andThen_ok, hagg, hz, if_true, hl]
end
end Go.Ab
