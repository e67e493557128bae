/- REGIONS WHOSE ORDER IS OPEN AND SOME OF WHOSE OPERATIONS MAKE MEMORY: one walk in the order of the text.
   The slots in 'ss' hold values that depend on the order (a new slice's address, say): of each the predicate F says what is known of it, in the world in which it is used.
   Every other operation yields one and the same value in every world that is as w0 was below B. -/
import Derived.Deep.Quiet
import Derived.BigQuiet
import Derived.Below
import Derived.KernelRfl
import Derived.Laws.Rows
import Derived.StillTail
namespace Go.Proofs.Ytabgmodllifgjaa
open Go.RowKit

/-- The worlds that are as w was below B. -/
def Bel (B : Nat) (w : World) := { w' : World // Below B w w' }
instance Bel.some_ (B : Nat) (w : World) : Nonempty (Bel B w) := ⟨⟨w, Below.refl _ _⟩⟩
theorem Bel.cell {B : Nat} {w : World} (d : Bel B w) {p : Addr} {u : Value} (h : w.cell? p = some u) (hp : p.block < B) : d.1.cell? p = some u := by rw [d.2.cell hp]; exact h

/-- But for the blocks of M (and new ones) nothing has turned. -/
structure Upto (M : Nat → Prop) (w w' : World) : Prop where
  os : w'.os = w.os
  tape : w'.tape = w.tape
  output : w'.output = w.output
  size : w.heap.size ≤ w'.heap.size
  block : ∀ k, k < w.heap.size → ¬ M k → w'.heap[k]? = w.heap[k]?
section
variable {M : Nat → Prop} {a w w' : World}
theorem Upto.refl (w : World) : Upto M w w := ⟨rfl, rfl, rfl, Nat.le_refl _, fun _ _ _ => rfl⟩
theorem Upto.trans (h : Upto M a w) (k : Upto M w w') : Upto M a w' :=
  ⟨k.os.trans h.os, k.tape.trans h.tape, k.output.trans h.output, Nat.le_trans h.size k.size, fun i h1 h2 => (k.block i (Nat.lt_of_lt_of_le h1 h.size) h2).trans (h.block i h1 h2)⟩
theorem Upto.of_below (hb : Below w.heap.size w w') : Upto M w w' := ⟨hb.os, hb.tape, hb.output, hb.size, fun k hk _ => hb.block k hk⟩
theorem Upto.below (h : Upto M a w) (hb : Below w.heap.size w w') : Upto M a w' := h.trans (Upto.of_below hb)
theorem Upto.of_grown {row : Option Nat} (hg : w.grownBy w' row) (hr : ∀ g, row = some g → M g) : Upto M w w' :=
  ⟨hg.os, hg.tape, hg.output, hg.size, fun k hk hne => hg.block k hk (fun e => hne (hr k e.symm))⟩
theorem Upto.drew (h : Upto M a w) : Upto M a w.drew := h.below (Below.refl _ _).drew
theorem Upto.drewN (h : Upto M a w) (n : Nat) : Upto M a (w.drewN n) := ⟨h.os, h.tape, h.output, h.size, h.block⟩
theorem Upto.alloc (h : Upto M a w) (o : Obj) : Upto M a (w.alloc o) := h.below ((Below.refl _ _).alloc (Nat.le_refl _) o)
theorem Upto.cell (h : Upto M w w') {p : Addr} {u : Value} (hc : w.cell? p = some u) (hM : ¬ M p.block) : w'.cell? p = some u :=
  (World.cell?_of_block (h.block _ (block_lt_of_cell hc) hM)).trans hc
theorem Upto.to_below (h : Upto (fun _ => False) w w') : Below w.heap.size w w' := ⟨h.os, h.tape, h.output, h.size, fun k hk => h.block k hk (fun f => f)⟩
/-- What has turned was new when the call began. -/
theorem Upto.to_below' {B : Nat} (h : Upto M w w') (hM : ∀ k, M k → B ≤ k) (hB : B ≤ w.heap.size) : Below B w w' := ⟨h.os, h.tape, h.output, h.size, fun k hk => h.block k (by omega) (fun m => by have := hM k m; omega)⟩
end
/-- The worlds that are as w was but for the blocks of M. -/
def BelM (M : Nat → Prop) (w : World) := { w' : World // Upto M w w' }
instance BelM.some_ (M : Nat → Prop) (w : World) : Nonempty (BelM M w) := ⟨⟨w, Upto.refl _⟩⟩
theorem BelM.cell {M : Nat → Prop} {w : World} (d : BelM M w) {p : Addr} {u : Value} (h : w.cell? p = some u) (hp : ¬ M p.block) : d.1.cell? p = some u := d.2.cell h hp

/-- Operations that yield a value (or stop), and never enter a function. -/
def plainOp : Op → Bool
  | .move _ | .assign _ | .pick _ _ _ | .load _ _ | .nilCheck _ | .binOp _ _ _ _ _ | .unOp _ _ _ | .convert _ _ _ | .fieldAddr _ _ _ | .field _ _ _ | .indexAddr _ _ _ | .index _ _ _ | .slice _ _ _ _ _ | .extract _ _
  | .makeInterface _ _ | .build _ _ | .typeAssert _ _ _ _ | .lookup _ _ _ _ => true
  | .call { callee := .builtin .len, .. } => true
  | .call { callee := .builtin .min, .. } => true
  | .call { callee := .builtin .max, .. } => true
  | _ => false

theorem andThen_not_enter (r : Result Value) (w' : World) (f : FuncId) (args : Array Value) : (r.andThen fun a w' => Result.ok (Next.value a) w') ≠ .ok (.enter f args) w' := by
  cases r <;> simp [Result.andThen]
theorem value_not_enter {P : Program} (s : Sem Value) (w w' : World) (f : FuncId) (args : Array Value) : (do let x ← s; pure (Next.value x) : Sem Next).run P w ≠ .ok (.enter f args) w' := by
  rw [Sem.run_bind]
  cases s.run P w <;> simp [Result.andThen]

theorem then_value_not_enter {P : Program} {α : Type} (s : Sem α) (v : Value) (w w' : World) (f : FuncId) (args : Array Value) : (do let _ ← s; pure (Next.value v) : Sem Next).run P w ≠ .ok (.enter f args) w' := by
  rw [Sem.run_bind]
  cases s.run P w <;> simp [Result.andThen]
theorem nil_not_enter {P : Program} (w w' : World) (f : FuncId) (args : Array Value) : (runtimePanic .nilDeref : Sem Next).run P w ≠ .ok (.enter f args) w' := by
  simp [runtimePanic, goPanic]
theorem plain_not_enter {P : Program} {o : Oper} (hp : plainOp o.op = true) (ρ : Operand → Value) (w w' : World) (f : FuncId) (args : Array Value) : (execOp ρ o).run P w ≠ .ok (.enter f args) w' := by
  obtain ⟨dst, op, type, pos, after, guard⟩ := o
  cases op <;> simp only [plainOp] at hp <;> simp only [execOp]
  case nilCheck x =>
    generalize ρ x = v
    split
    · exact nil_not_enter _ _ _ _
    · exact nil_not_enter _ _ _ _
    · exact nil_not_enter _ _ _ _
    · split
      · exact nil_not_enter _ _ _ _
      · intro h
        simp only [Sem.run_bind] at h
        revert h
        cases (program : Sem Program).run P w with
        | halt x w2 => simp [Result.andThen]
        | ok p w2 =>
          simp only [Result.andThen]
          split
          · rename_i x w3 _
            by_cases hq : (x != some false) = true
            · rw [if_pos hq]
              simp [unsupported]
            · rw [if_neg hq]
              simp
          · simp
      · simp
    · simp
  case call c =>
    obtain ⟨callee, cargs, argTypes⟩ := c
    cases callee
    case builtin b =>
      cases b
      all_goals first | (cases hp; done) | (simp only [resolve, Sem.run_bind, Sem.run_pure, Result.andThen_ok, invoke, builtin]; exact andThen_not_enter _ _ _ _)
    all_goals (cases hp; done)
  case pick c a b =>
    rw [Sem.run_bind]
    cases (asBool (ρ c)).run P w <;> simp [Result.andThen]
  all_goals first | (cases hp; done) | exact value_not_enter _ _ _ _ _ | simp

section
variable {P : Program} {ops : Array Oper} {md : Region.Mode} {ss : List Tmp} {F : Tmp → Value → World → Prop} {M : Nat → Prop} {w0 : World} {St : Tmp → World → World → Prop} {V : Bool → World → Prop}

/-- A store (of which a region may hold one). -/
def isStore (o : Oper) : Bool := match o.op with | .store _ _ _ => true | _ => false
def CB (M : Nat → Prop) (w0 : World) : World → Prop := fun w' => ∃ d : BelM M w0, w' = d.1

def relUpon (P : Program) (T : World → World → Prop) (S : Value → World → Prop) (w : World) : Result Next → Prop
  | .ok (.value u) w' => T w w' ∧ S u w'
  | .ok (.enter f args) w' => w' = w ∧ Calls P f args w (fun e w'' => ∃ v, e = .returned v ∧ T w w'' ∧ S v w'')
  | _ => False

def tempsOf (o : Oper) : List Tmp := o.op.operands.toList.filterMap fun | .tmp t => some t | _ => none
def Known (ss : List Tmp) (F : Tmp → Value → World → Prop) (o : Oper) (a : Act) (w : World) : Prop := ∀ t ∈ ss, t ∈ tempsOf o → F t (a.tmps.getD t undef) w
def RelsAt (P : Program) (M : Nat → Prop) (w0 : World) (ss : List Tmp) (F : Tmp → Value → World → Prop) (o : Oper) (a : Act) (T : World → World → Prop) (S : Value → World → Prop) : Prop :=
  ∀ w, Upto M w0 w → Known ss F o a w → relUpon P T S w ((execOp a.eval o).run P w)

/-- What is known of the values that an operation may yield, without a world. -/
def Stat (V : Bool → World → Prop) (St : Tmp → World → World → Prop) (P : Program) (ops : Array Oper) (M : Nat → Prop) (w0 : World) (ss : List Tmp) (F : Tmp → Value → World → Prop) (o : Oper) (a : Act) (R : Value → Prop) : Prop :=
  (Region.wanted o (yielded ops a.tmps) = true ∧ plainOp o.op = true ∧ (∀ d, o.dst = some d → d ∉ ss) ∧ ∃ v, (∀ w, CB M w0 w → o.quietAt P a (CB M w0) w v) ∧ R = fun u => u = v) ∨
  (Region.wanted o (yielded ops a.tmps) = true ∧ isStore o = true ∧ o.dst = none ∧ (∀ w, Upto M w0 w → Known ss F o a w → V false w → ∃ w', (execOp a.eval o).run P w = .ok .skip w' ∧ Upto M w w' ∧ V true w') ∧ R = fun u => u = undef) ∨
  (Region.wanted o (yielded ops a.tmps) = true ∧ isStore o = false ∧ ∃ d, o.dst = some d ∧ d ∈ ss ∧ RelsAt P M w0 ss F o a (St d) (F d) ∧ R = fun v => ∃ w, Upto M w0 w ∧ F d v w) ∨
  (Region.wanted o (yielded ops a.tmps) = false ∧ isStore o = false ∧ (∀ d, o.dst = some d → d ∈ ss → ∀ w, F d undef w) ∧ R = fun u => u = undef)

def rOp (V : Bool → World → Prop) (St : Tmp → World → World → Prop) (P : Program) (ops : Array Oper) (M : Nat → Prop) (w0 : World) (ss : List Tmp) (F : Tmp → Value → World → Prop) (o : Oper) (K : Act → Prop) (a : Act) : Prop :=
  ∃ R, Stat V St P ops M w0 ss F o a R ∧ ∀ v, R v → K (a.put o.dst v)

/-- THE WALK in the order of the text. -/
def wpRel (V : Bool → World → Prop) (St : Tmp → World → World → Prop) (P : Program) (ops : Array Oper) (M : Nat → Prop) (w0 : World) (ss : List Tmp) (F : Tmp → Value → World → Prop) (Q : Act → Prop) : List Oper → Act → Prop
  | [], a => Q a
  | o :: rest, a => rOp V St P ops M w0 ss F o (wpRel V St P ops M w0 ss F Q rest) a

structure Inv (ops : Array Oper) (M : Nat → Prop) (w0 : World) (ss : List Tmp) (F : Tmp → Value → World → Prop) (listed : Array Bool) (a : Act) (w : World) : Prop where
  below : Upto M w0 w
  size : ∀ d ∈ ss, d < a.tmps.size
  facts : ∀ k o d, listed.getD k false = true → ops[k]? = some o → o.dst = some d → d ∈ ss → F d (a.tmps.getD d undef) w
def Sat (ops : Array Oper) (M : Nat → Prop) (w0 : World) (ss : List Tmp) (F : Tmp → Value → World → Prop) (listed : Array Bool) (a : Act) : Prop := ∃ w, Inv ops M w0 ss F listed a w

def wpAnyR (V : Bool → World → Prop) (St : Tmp → World → World → Prop) (P : Program) (md : Region.Mode) (ops : Array Oper) (M : Nat → Prop) (w0 : World) (ss : List Tmp) (F : Tmp → Value → World → Prop) (Q : Act → Prop) : Nat → Array Bool → Act → Prop
  | 0, listed, a => Sat ops M w0 ss F listed a → Region.ready md ops listed = [] ∧ Q a
  | fuel + 1, listed, a => Sat ops M w0 ss F listed a → (Region.ready md ops listed = [] → Q a) ∧
    ∀ i ∈ Region.ready md ops listed, ∀ o, ops[i]? = some o → rOp V St P ops M w0 ss F o (wpAnyR V St P md ops M w0 ss F Q fuel (listed.setIfInBounds i true)) a

/-- What is asked of a region by its looks. -/
structure RelOk (md : Region.Mode) (ops : Array Oper) (ss : List Tmp) : Prop where
  dist : ∀ (i j : Nat) (oi oj : Oper) (d : Tmp), ops[i]? = some oi → ops[j]? = some oj → oi.dst = some d → oj.dst = some d → d ∈ ss → i = j
  dep : ∀ (i : Nat) (oi : Oper) (t : Tmp), ops[i]? = some oi → t ∈ tempsOf oi → t ∈ ss → ∃ e ∈ oi.after, Region.binds md e = true ∧ ∃ o' : Oper, ops[e.on]? = some o' ∧ o'.dst = some t
  back : ∀ (i : Nat) (oi : Oper), ops[i]? = some oi → ∀ e ∈ oi.after, Region.binds md e = true → e.on < i
  cover : ∀ t ∈ ss, ∃ (i : Nat) (oi : Oper), ops[i]? = some oi ∧ oi.dst = some t
  one : ∀ (i j : Nat) (oi oj : Oper), ops[i]? = some oi → ops[j]? = some oj → isStore oi = true → isStore oj = true → i = j

theorem put_same (a : Act) (d : Tmp) (v : Value) (h : d < a.tmps.size) : (a.put (some d) v).tmps.getD d undef = v := by simp [Act.put, h]
theorem put_other (a : Act) (x : Option Tmp) (d : Tmp) (v : Value) (h : x ≠ some d) : (a.put x v).tmps.getD d undef = a.tmps.getD d undef := by
  cases x with
  | none => rfl
  | some e =>
    have hne : e ≠ d := fun he => h (he ▸ rfl)
    simp [Act.put, Array.getElem?_setIfInBounds_ne hne]
theorem put_size (a : Act) (x : Option Tmp) (v : Value) : (a.put x v).tmps.size = a.tmps.size := by cases x <;> simp [Act.put]

theorem getD_set_ne' {listed : Array Bool} {i k : Nat} (h : i ≠ k) (b : Bool) : (listed.setIfInBounds i true).getD k b = listed.getD k b := by
  simp [Array.getElem?_setIfInBounds_ne h]

theorem tempsOf_looks {o : Oper} {t : Tmp} (h : t ∈ tempsOf o) : t ∈ o.looksAt ops := List.mem_append_left _ h

theorem Stat.put {o : Oper} {a : Act} {R : Value → Prop} {x : Option Tmp} {u : Value} (hs : ∀ cs b, o.op ≠ .select cs b) (hap : ∀ d, x = some d → d ∉ o.looksAt ops) :
    Stat V St P ops M w0 ss F o (a.put x u) R ↔ Stat V St P ops M w0 ss F o a R := by
  have hk : ∀ w, Known ss F o (a.put x u) w ↔ Known ss F o a w := fun w => by
    unfold Known
    constructor <;> intro h t ht hto <;> have := h t ht hto
    · rwa [put_other a x t u (fun e => hap t e (tempsOf_looks hto))] at this
    · rwa [put_other a x t u (fun e => hap t e (tempsOf_looks hto))]
  have he := execOp_put (ops := ops) o hs a x u hap
  have hw := wanted_put (ops := ops) o a x u hap
  unfold Stat RelsAt Oper.quietAt
  simp only [he, hw, hk]

theorem plain_not_store {o : Oper} (h : plainOp o.op = true) : isStore o = false := by
  unfold isStore
  split
  · rename_i e; rw [e] at h; cases h
  · rfl
theorem Stat.uniq {o : Oper} {a : Act} {R R' : Value → Prop} (h : Stat V St P ops M w0 ss F o a R) (h' : Stat V St P ops M w0 ss F o a R') : R = R' := by
  rcases h with ⟨hw, hp, hd, v, hv, rfl⟩ | ⟨hw, hS, hn, _, rfl⟩ | ⟨hw, hS, d, hd, hs, _, rfl⟩ | ⟨hw, hS, _, rfl⟩ <;> rcases h' with ⟨hw', hp', hd', v', hv', rfl⟩ | ⟨hw', hS', hn', _, rfl⟩ | ⟨hw', hS', d', hd', hs', _, rfl⟩ | ⟨hw', hS', _, rfl⟩
  · have h1 := hv w0 ⟨⟨w0, Upto.refl _⟩, rfl⟩
    have h2 := hv' w0 ⟨⟨w0, Upto.refl _⟩, rfl⟩
    have hne := fun f args w' => plain_not_enter hp a.eval w0 w' f args (P := P)
    unfold Oper.quietAt at h1 h2
    generalize (execOp a.eval o).run P w0 = r at *
    cases r with
    | ok n w' =>
      cases n <;> simp only [Oper.quietUpon] at h1 h2
      case value u => rw [← h1.2, ← h2.2]
      case skip => rw [h1.2, h2.2]
      case enter f args => exact absurd rfl (hne f args w')
    | halt x w' => simp only [Oper.quietUpon] at h1
  · rw [plain_not_store hp] at hS'; cases hS'
  · exact absurd hs' (hd d' hd')
  · exact absurd (hw.symm.trans hw') (by decide)
  · rw [plain_not_store hp'] at hS; cases hS
  · rfl
  · exact absurd (hS.symm.trans hS') (by decide)
  · exact absurd (hw.symm.trans hw') (by decide)
  · exact absurd hs (hd' d hd)
  · exact absurd (hS'.symm.trans hS) (by decide)
  · rw [hd] at hd'; injection hd' with e; subst e; rfl
  · exact absurd (hw.symm.trans hw') (by decide)
  · exact absurd (hw.symm.trans hw') (by decide)
  · exact absurd (hw.symm.trans hw') (by decide)
  · exact absurd (hw.symm.trans hw') (by decide)
  · rfl

/-- One operation carried out: what it leaves. -/
theorem Inv.step (hok : RelOk md ops ss) {listed : Array Bool} {a : Act} {w w' : World} {i : Nat} {o : Oper} {v : Value} (hi : ops[i]? = some o)
    (h : Inv ops M w0 ss F listed a w) (hb : Upto M w w') (hkeep : ∀ t v, o.dst ≠ some t → F t v w → F t v w') (hv : ∀ d, o.dst = some d → d ∈ ss → F d v w') :
    Inv ops M w0 ss F (listed.setIfInBounds i true) (a.put o.dst v) w' := by
  refine ⟨h.below.trans hb, fun d hd => by rw [put_size]; exact h.size d hd, fun k ok d hk hok' hd hs => ?_⟩
  by_cases hki : i = k
  · subst hki
    rw [hi] at hok'
    injection hok' with e
    subst e
    rw [hd, put_same a d v (h.size d hs)]
    exact hv d hd hs
  · rw [getD_set_ne' hki] at hk
    rw [put_other a o.dst d v (fun e => hki (hok.dist i k o ok d hi hok' e hd hs))]
    exact hkeep _ _ (fun e => hki (hok.dist i k o ok d hi hok' e hd hs)) (h.facts k ok d hk hok' hd hs)

theorem Inv.known (hok : RelOk md ops ss) {listed : Array Bool} {a : Act} {w : World} {i : Nat} {o : Oper} (hi : ops[i]? = some o) (hr : i ∈ Region.ready md ops listed) (h : Inv ops M w0 ss F listed a w) : Known ss F o a w := by
  intro t ht hto
  obtain ⟨_, oi, hoi, hall⟩ := mem_ready.1 hr
  rw [hi] at hoi
  injection hoi with e
  subst e
  obtain ⟨e, he, hbd, o', ho', hd⟩ := hok.dep i o t hi hto ht
  exact h.facts e.on o' t (hall e he hbd) ho' hd ht

/-- From a world in which the facts hold the operation yields one of its values. -/
theorem sat_step (hok : RelOk md ops ss) (hSt : ∀ d w w', St d w w' → Upto M w w') (hst : ∀ t d v w w', d ≠ t → F t v w → St d w w' → F t v w')
    {listed : Array Bool} {a : Act} {i : Nat} {o : Oper} {R : Value → Prop} (hi : ops[i]? = some o) (hr : i ∈ Region.ready md ops listed) (hs : Sat ops M w0 ss F listed a) (h : Stat V St P ops M w0 ss F o a R) :
    ∃ v, R v ∧ Sat ops M w0 ss F (listed.setIfInBounds i true) (a.put o.dst v) := by
  obtain ⟨w, hw⟩ := hs
  have hk := hw.known hok hi hr
  rcases h with ⟨_, hp, hd, v, hv, rfl⟩ | ⟨_, _, hn, _, rfl⟩ | ⟨_, _, d, hd, hds, hR, rfl⟩ | ⟨_, _, hu, rfl⟩
  · exact ⟨v, rfl, w, hw.step hok hi (Upto.refl _) (fun _ _ _ h => h) (fun d h1 h2 => absurd h2 (hd d h1))⟩
  · exact ⟨undef, rfl, w, hw.step hok hi (Upto.refl _) (fun _ _ _ h => h) (fun d h1 h2 => by rw [hn] at h1; cases h1)⟩
  · have h1 := hR w hw.below hk
    generalize (execOp a.eval o).run P w = r at h1
    cases r with
    | ok n w' =>
      cases n <;> simp only [relUpon] at h1
      case value u =>
        have hi2 := hw.step hok hi (hSt d _ _ h1.1) (fun t v' hne hF' => hst t d v' _ _ (fun e => hne (e ▸ hd)) hF' h1.1) (v := u) (fun d' h2 _ => by rw [hd] at h2; injection h2 with e; subst e; exact h1.2)
        exact ⟨u, ⟨w', hi2.below, h1.2⟩, w', hi2⟩
      case enter f args =>
        obtain ⟨_, hc⟩ := h1
        obtain ⟨e, w2, fr, ⟨u, _, hb, hF⟩, _⟩ := hc []
        have hi2 := hw.step hok hi (hSt d _ _ hb) (fun t v' hne hF' => hst t d v' _ _ (fun e => hne (e ▸ hd)) hF' hb) (v := u) (fun d' h2 _ => by rw [hd] at h2; injection h2 with e; subst e; exact hF)
        exact ⟨u, ⟨w2, hi2.below, hF⟩, w2, hi2⟩
    | halt x w' => simp only [relUpon] at h1
  · exact ⟨undef, rfl, w, hw.step hok hi (Upto.refl _) (fun _ _ _ h => h) (fun d h1 h2 => hu d h1 h2 w)⟩

theorem sat_drop (hok : RelOk md ops ss) {listed : Array Bool} {a : Act} {j : Nat} {oj : Oper} {u : Value} (hj : ops[j]? = some oj) (hun : listed.getD j true = false) (h : Sat ops M w0 ss F (listed.setIfInBounds j true) (a.put oj.dst u)) :
    Sat ops M w0 ss F listed a := by
  obtain ⟨w, hw⟩ := h
  refine ⟨w, hw.below, fun d hd => by have := hw.size d hd; rwa [put_size] at this, fun k o d hk ho hd hs => ?_⟩
  have hkj : j ≠ k := by
    rintro rfl
    rcases Nat.lt_or_ge j listed.size with h' | h'
    · simp [h'] at hk hun; rw [hk] at hun; cases hun
    · simp [Array.getElem?_eq_none h'] at hk
  have h1 := hw.facts k o d (by rw [getD_set_ne' hkj]; exact hk) ho hd hs
  rwa [put_other a oj.dst d u (fun e => hkj (hok.dist j k oj o d hj ho e hd hs))] at h1

theorem rOp_mono {o : Oper} {a : Act} {K K' : Act → Prop} (h : ∀ a, K a → K' a) (hh : rOp V St P ops M w0 ss F o K a) : rOp V St P ops M w0 ss F o K' a :=
  let ⟨R, h1, h2⟩ := hh
  ⟨R, h1, fun v hv => h _ (h2 v hv)⟩

theorem wpRel_mono {Q Q' : Act → Prop} (hq : ∀ a, Q a → Q' a) : ∀ (l : List Oper) (a : Act), wpRel V St P ops M w0 ss F Q l a → wpRel V St P ops M w0 ss F Q' l a
  | [], a, h => hq a h
  | _ :: l, _, h => rOp_mono (fun a' h' => wpRel_mono hq l a' h') h
theorem wpAnyR_first {Q : Act → Prop} (hok : RelOk md ops ss) (hSt : ∀ d w w', St d w w' → Upto M w w') (hst : ∀ t d v w w', d ≠ t → F t v w → St d w w' → F t v w') {i : Nat} {oi : Oper} (hi : ops[i]? = some oi) (hsel : ∀ (j : Nat) (o : Oper) cs b, ops[j]? = some o → o.op ≠ .select cs b) :
    ∀ (fuel : Nat) (listed : Array Bool) (a : Act),
      (∀ j oj, ops[j]? = some oj → j ≠ i → listed.getD j true = false → (∀ e ∈ oj.after, Region.binds md e = true → e.on ≠ i) → oi.apart ops oj = true) →
      i ∈ Region.ready md ops listed → rOp V St P ops M w0 ss F oi (wpAnyR V St P md ops M w0 ss F Q fuel (listed.setIfInBounds i true)) a → wpAnyR V St P md ops M w0 ss F Q (fuel + 1) listed a := by
  intro fuel
  induction fuel with
  | zero =>
    intro listed a _ hr H hsat
    refine ⟨fun h => (by rw [h] at hr; cases hr), fun j hj oj hoj => ?_⟩
    by_cases hji : j = i
    · subst hji; rw [hi] at hoj; injection hoj with e; subst e; exact H
    · obtain ⟨R, h1, h2⟩ := H
      obtain ⟨v, hv, hs⟩ := sat_step hok hSt hst hi hr hsat h1
      have := ready_mono hj hji
      rw [(h2 v hv hs).1] at this
      cases this
  | succ fuel ih =>
    intro listed a hfree hr H hsat
    refine ⟨fun h => (by rw [h] at hr; cases hr), fun j hj oj hoj => ?_⟩
    by_cases hji : j = i
    · subst hji; rw [hi] at hoj; injection hoj with e; subst e; exact H
    · obtain ⟨hjun, oj', hoj', hall⟩ := mem_ready.1 hj
      rw [hoj] at hoj'
      injection hoj' with e
      subst e
      have hnot : ∀ e ∈ oj.after, Region.binds md e = true → e.on ≠ i := fun e he hb heq => by
        have h1 := hall e he hb
        have h0 := (mem_ready.1 hr).1
        rw [heq] at h1
        rcases Nat.lt_or_ge i listed.size with h' | h'
        · simp [h'] at h0 h1; rw [h0] at h1; cases h1
        · simp [Array.getElem?_eq_none h'] at h1
      have hap := hfree j oj hoj hji hjun hnot
      obtain ⟨p1, p2, p3⟩ := Oper.apart_spec hap
      have hsi := fun cs b => hsel i oi cs b hi
      have hsj := fun cs b => hsel j oj cs b hoj
      obtain ⟨Ri, hRi, hK⟩ := H
      obtain ⟨v1, hv1, hs1⟩ := sat_step hok hSt hst hi hr hsat hRi
      obtain ⟨Rj, hRj, _⟩ := (hK v1 hv1 hs1).2 j (ready_mono hj hji) oj hoj
      rw [Stat.put hsj p1] at hRj
      have hjun' : ∀ L : Array Bool, L = listed.setIfInBounds i true → L.getD j true = false := fun L hL => by rw [hL, getD_set_ne' (Ne.symm hji)]; exact hjun
      refine ⟨Rj, hRj, fun u hu => ?_⟩
      have hfree' : ∀ k ok, ops[k]? = some ok → k ≠ i → (listed.setIfInBounds j true).getD k true = false →
          (∀ e ∈ ok.after, Region.binds md e = true → e.on ≠ i) → oi.apart ops ok = true := fun k ok hk hki hun hno => by
        refine hfree k ok hk hki ?_ hno
        by_cases hjk : j = k
        · subst hjk; exact hjun
        · rwa [getD_set_ne' hjk] at hun
      refine ih (listed.setIfInBounds j true) (a.put oj.dst u) hfree' (ready_mono hr (Ne.symm hji)) ⟨Ri, (Stat.put hsi p3).2 hRi, fun v hv => ?_⟩
      rw [Array.setIfInBounds_comm _ _ hji, ← Act.put_comm a v u p2]
      cases fuel with
      | zero =>
        intro hs2
        have hs3 := sat_drop (a := a.put oi.dst v) (listed := listed.setIfInBounds i true) hok hoj (hjun' _ rfl) hs2
        obtain ⟨Rj', hRj', h2⟩ := (hK v hv hs3).2 j (ready_mono hj hji) oj hoj
        rw [Stat.put hsj p1] at hRj'
        rw [← hRj.uniq hRj'] at h2
        exact h2 u hu hs2
      | succ fuel =>
        intro hs2
        have hs3 := sat_drop (a := a.put oi.dst v) (listed := listed.setIfInBounds i true) hok hoj (hjun' _ rfl) hs2
        obtain ⟨Rj', hRj', h2⟩ := (hK v hv hs3).2 j (ready_mono hj hji) oj hoj
        rw [Stat.put hsj p1] at hRj'
        rw [← hRj.uniq hRj'] at h2
        exact h2 u hu hs2

theorem wpAnyR_lex {Q : Act → Prop} (hok : RelOk md ops ss) (hSt : ∀ d w w', St d w w' → Upto M w w') (hst : ∀ t d v w w', d ≠ t → F t v w → St d w w' → F t v w') (hs : Region.noSelect ops = true) : ∀ (l : List Oper) (k : Nat) (listed : Array Bool) (a : Act), (∀ j, l[j]? = ops[k + j]?) →
    Region.lexFrom md ops l.length k listed = true → wpRel V St P ops M w0 ss F Q l a → wpAnyR V St P md ops M w0 ss F Q l.length listed a
  | [], _, _, _, _, hB', h => fun _ => ⟨by simpa [Region.lexFrom] using hB', h⟩
  | o :: l, k, listed, a, hl, hB', h => by
    have h0 : ops[k]? = some o := by simpa using (hl 0).symm
    simp only [List.length_cons, Region.lexFrom, Bool.and_eq_true] at hB'
    obtain ⟨⟨hr, hf⟩, hB''⟩ := hB'
    exact wpAnyR_first hok hSt hst h0 (Region.noSelect_spec hs) l.length listed a (Region.free_spec h0 hf) (by simpa using hr)
      (rOp_mono (fun a' h' => wpAnyR_lex hok hSt hst hs l (k + 1) _ _ (fun j => by have := hl (j + 1); simpa [Nat.add_assoc, Nat.add_comm 1 j] using this) hB'' h') h)

/-- What is known of the world besides: V false ahead of the store, V true behind it. -/
structure InvV (V : Bool → World → Prop) (ops : Array Oper) (M : Nat → Prop) (w0 : World) (ss : List Tmp) (F : Tmp → Value → World → Prop) (listed : Array Bool) (a : Act) (w : World) : Prop extends Inv ops M w0 ss F listed a w where
  st : ∀ s o, ops[s]? = some o → isStore o = true → V (listed.getD s false) w
/-- The steps: of an operation with a slot, and of the store. -/
structure Steps (V : Bool → World → Prop) (St : Tmp → World → World → Prop) (M : Nat → Prop) (F : Tmp → Value → World → Prop) : Prop where
  v : ∀ b d w w', V b w → St d w w' → V b w'
  store : ∀ t v w w', F t v w → Upto M w w' → F t v w'
theorem InvV.of {listed : Array Bool} {a' : Act} {w w' : World} {i : Nat} {o : Oper} {a : Act} (hi : ops[i]? = some o) (hns : isStore o = false) (h : InvV V ops M w0 ss F listed a w)
    (h' : Inv ops M w0 ss F (listed.setIfInBounds i true) a' w') (hV : ∀ b, V b w → V b w') : InvV V ops M w0 ss F (listed.setIfInBounds i true) a' w' :=
  ⟨h', fun s os hs hS => by
    have hne : i ≠ s := by rintro rfl; rw [hi] at hs; injection hs with e; subst e; rw [hns] at hS; cases hS
    rw [getD_set_ne' hne]
    exact hV _ (h.st s os hs hS)⟩

theorem wpOp_of_rOp (hc : Steps V St M F) (hok : RelOk md ops ss) (hSt : ∀ d w w', St d w w' → Upto M w w') (hst : ∀ t d v w w', d ≠ t → F t v w → St d w w' → F t v w') {Q' : Exit → Act → World → Prop}
    {listed : Array Bool} {a : Act} {w : World} {i : Nat} {o : Oper} {K : Act → Prop} {K' : Act → World → Prop} (hi : ops[i]? = some o) (hr : i ∈ Region.ready md ops listed) (hw : InvV V ops M w0 ss F listed a w)
    (h : ∀ a' w', InvV V ops M w0 ss F (listed.setIfInBounds i true) a' w' → K a' → K' a' w') (hh : rOp V St P ops M w0 ss F o K a) : wpOp P ops Q' i K' a w := by
  have hk := hw.toInv.known hok hi hr
  obtain ⟨R, hR, hK⟩ := hh
  unfold wpOp
  simp only [hi]
  rcases hR with ⟨hwt, hp, hd, v, hv, rfl⟩ | ⟨hwt, hS, hn, hR, rfl⟩ | ⟨hwt, hS, d, hd, hds, hR, rfl⟩ | ⟨hwt, hS, hu, rfl⟩
  · rw [if_pos hwt]
    refine .inl ?_
    have h3 := hv w ⟨⟨w, hw.below⟩, rfl⟩
    have hne := fun f args w' => plain_not_enter hp a.eval w w' f args (P := P)
    have hstep := h _ _ (hw.of hi (plain_not_store hp) (hw.toInv.step hok hi (Upto.refl _) (fun _ _ _ h => h) (v := v) (fun d h1 h2 => absurd h2 (hd d h1))) fun _ h => h) (hK v rfl)
    unfold Oper.quietAt at h3
    unfold Oper.wp
    generalize (execOp a.eval o).run P w = r at *
    cases r with
    | ok n w' =>
      cases n <;> simp only [Oper.quietUpon] at h3 <;> simp only [Oper.upon]
      case value u => rw [h3.1, h3.2]; exact hstep
      case skip => rw [h3.1, ← h3.2]; exact hstep
      case enter f args => exact absurd rfl (hne f args w')
    | halt x w' => simp only [Oper.quietUpon] at h3
  · rw [if_pos hwt]
    refine .inl ?_
    obtain ⟨w', hrun, hb, hV⟩ := hR w hw.below hk (by
      have := hw.st i o hi hS
      have hf : listed.getD i false = false := by
        have := (mem_ready.1 hr).1
        rcases Nat.lt_or_ge i listed.size with h' | h'
        · simp [h'] at this ⊢; exact this
        · simp [Array.getElem?_eq_none h']
      rwa [hf] at this)
    unfold Oper.wp
    rw [hrun]
    simp only [Oper.upon]
    have hlt : i < listed.size := by
      have := (mem_ready.1 hr).1
      rcases Nat.lt_or_ge i listed.size with h' | h'
      · exact h'
      · simp [Array.getElem?_eq_none h'] at this
    exact h _ _ ⟨hw.toInv.step hok hi hb (fun t v' _ hF' => hc.store t v' _ _ hF' hb) (v := undef) (fun d h1 h2 => by rw [hn] at h1; cases h1), fun s os hs hSs => by
      obtain rfl := hok.one s i os o hs hi hSs hS
      have e : (listed.setIfInBounds s true).getD s false = true := by simp [hlt]
      rw [e]; exact hV⟩ (hK undef rfl)
  · rw [if_pos hwt]
    refine .inl ?_
    have h1 := hR w hw.below hk
    unfold Oper.wp
    generalize (execOp a.eval o).run P w = r at *
    have go : ∀ u w', St d w w' → F d u w' → K' (a.put o.dst u) w' := fun u w' hb hF => by
      have hi2 := hw.toInv.step hok hi (hSt d _ _ hb) (fun t v' hne hF' => hst t d v' _ _ (fun e => hne (e ▸ hd)) hF' hb) (v := u) (fun d' h2 _ => by rw [hd] at h2; injection h2 with e; subst e; exact hF)
      exact h _ _ (hw.of hi hS hi2 fun b hv => hc.v b d _ _ hv hb) (hK u ⟨w', hi2.below, hF⟩)
    cases r with
    | ok n w' =>
      cases n <;> simp only [relUpon] at h1 <;> simp only [Oper.upon]
      case value u => exact go u w' h1.1 h1.2
      case enter f args =>
        obtain ⟨rfl, hc⟩ := h1
        exact hc.mono fun e w2 ⟨u, he, hb, hF⟩ => by subst he; exact go u w2 hb hF
    | halt x w' => simp only [relUpon] at h1
  · rw [if_neg (by rw [hwt]; simp)]
    exact h _ _ (hw.of hi hS (hw.toInv.step hok hi (Upto.refl _) (fun _ _ _ h => h) (v := undef) (fun d h1 h2 => hu d h1 h2 w)) fun _ h => h) (hK undef rfl)

theorem ready_nil_all (hok : RelOk md ops ss) {listed : Array Bool} (hsz : listed.size = ops.size) (h : Region.ready md ops listed = []) : ∀ k, k < ops.size → listed.getD k false = true := by
  intro k
  induction k using Nat.strongRecOn with
  | _ k ih =>
    intro hk
    rcases hb : listed.getD k false with _ | _
    · exfalso
      have ho : ops[k]? = some ops[k] := Array.getElem?_eq_getElem hk
      have : k ∈ Region.ready md ops listed := mem_ready.2 ⟨by
        have : k < listed.size := by omega
        simpa [this] using hb, ops[k], ho, fun e he hbd => by
          have hlt := hok.back k _ ho e he hbd
          exact ih e.on hlt (by omega)⟩
      rw [h] at this
      cases this
    · rfl

theorem wpAny_of_rel {Q : Act → Prop} {Q' : Exit → Act → World → Prop} (hc : Steps V St M F) (hok : RelOk md ops ss) (hSt : ∀ d w w', St d w w' → Upto M w w') (hst : ∀ t d v w w', d ≠ t → F t v w → St d w w' → F t v w')
    (hQ : ∀ a w, Upto M w0 w → (∀ (s : Nat) (o : Oper), ops[s]? = some o → isStore o = true → V true w) → (∀ t ∈ ss, F t (a.tmps.getD t undef) w) → Q a → Q' .normal a w) : ∀ (fuel : Nat) (listed : Array Bool) (a : Act) (w : World), listed.size = ops.size → InvV V ops M w0 ss F listed a w →
    wpAnyR V St P md ops M w0 ss F Q fuel listed a → wpAny P md ops Q' fuel listed a w := by
  have fin : ∀ (listed : Array Bool) (a : Act) (w : World), listed.size = ops.size → InvV V ops M w0 ss F listed a w → Region.ready md ops listed = [] → Q a → Q' .normal a w := fun listed a w hsz hw hn hq => by
    refine hQ a w hw.below (fun s o hs hS => by
      have h1 := hw.st s o hs hS
      rwa [ready_nil_all hok hsz hn s (by rcases Nat.lt_or_ge s ops.size with h | h; exact h; rw [Array.getElem?_eq_none h] at hs; cases hs)] at h1) (fun t ht => ?_) hq
    obtain ⟨i, oi, hi, hd⟩ := hok.cover t ht
    exact hw.facts i oi t (ready_nil_all hok hsz hn i (by rcases Nat.lt_or_ge i ops.size with h | h; exact h; rw [Array.getElem?_eq_none h] at hi; cases hi)) hi hd ht
  intro fuel
  induction fuel with
  | zero => intro listed a w hsz hw h; have h := h ⟨w, hw.toInv⟩; exact ⟨h.1, fin listed a w hsz hw h.1 h.2⟩
  | succ fuel ih =>
    intro listed a w hsz hw h
    have h := h ⟨w, hw.toInv⟩
    refine ⟨fun hn => fin listed a w hsz hw hn (h.1 hn), fun i hi => ?_⟩
    obtain ⟨_, o, ho, _⟩ := mem_ready.1 hi
    exact wpOp_of_rOp hc hok hSt hst ho hi hw (fun a' w' hw' hk => ih _ a' w' (by simpa using hsz) hw' hk) (h.2 i hi o ho)

def relB (ops : Array Oper) (ss : List Tmp) : Bool :=
  (ops.toList.zipIdx.all fun (o, i) =>
    (o.after.toList.all fun e => !Region.binds .any e || decide (e.on < i)) &&
    ((tempsOf o).all fun t => !ss.contains t || o.after.toList.any fun e => Region.binds .any e && ((ops[e.on]?).bind (·.dst)) == some t) &&
    (match o.dst with
     | some d => !ss.contains d || ops.toList.zipIdx.all fun (o', j) => o'.dst != some d || j == i
     | none => true) &&
    (!isStore o || ops.toList.zipIdx.all fun (o', j) => !isStore o' || j == i)) &&
  ss.all fun t => ops.toList.any fun o => o.dst == some t

theorem relOk_of (h : relB ops ss = true) : RelOk .any ops ss := by
  simp only [relB, Bool.and_eq_true, List.all_eq_true, List.any_eq_true] at h
  obtain ⟨h1, h2⟩ := h
  have hz : ∀ i o, ops[i]? = some o → (o, i) ∈ ops.toList.zipIdx := fun i o hi => by
    rw [List.mem_zipIdx_iff_getElem?]; simpa using hi
  refine ⟨fun i j oi oj d hi hj hdi hdj hd => ?_, fun i oi t hi ht hs => ?_, fun i oi hi e he hb => ?_, fun t ht => ?_, fun i j oi oj hi hj hSi hSj => ?_⟩
  · have := (h1 _ (hz i oi hi)).1.2
    simp only [hdi] at this
    simp [hd] at this
    rcases this oj j (hz j oj hj) with h | h
    · exact absurd hdj h
    · exact h.symm
  · have := (h1 _ (hz i oi hi)).1.1.2 t ht
    have hs' : ss.contains t = true := by simpa using hs
    rw [hs', Bool.not_true, Bool.false_or, List.any_eq_true] at this
    obtain ⟨e, he, hbd⟩ := this
    rw [Bool.and_eq_true] at hbd
    obtain ⟨hb, hd⟩ := hbd
    refine ⟨e, by simpa using he, hb, ?_⟩
    cases ho : ops[e.on]? with
    | none => simp [ho] at hd
    | some o' => simp [ho] at hd; exact ⟨o', rfl, hd⟩
  · have := (h1 _ (hz i oi hi)).1.1.1 e (by simpa using he)
    simpa [hb] using this
  · obtain ⟨o, ho, hd⟩ := h2 t ht
    obtain ⟨i, hi, e⟩ := List.getElem_of_mem ho
    exact ⟨i, o, by rw [← e]; simp [Array.getElem?_eq_getElem (by simpa using hi)], by simpa using hd⟩
  · have := (h1 _ (hz i oi hi)).2
    simp only [hSi, Bool.not_true, Bool.false_or, List.all_eq_true] at this
    have := this _ (hz j oj hj)
    simp only [hSj, Bool.not_true, Bool.false_or, beq_iff_eq] at this
    exact this.symm

/-- **One walk in the order of the text serves every order.** 'V false' holds of the world ahead of the region's store, 'V true' behind it. -/
theorem wp_region_relV {id : Nat} {Q : Exit → Act → World → Prop} {a : Act} {l : List Oper} (hm : P.follows .mixedOrders = true) (M : Nat → Prop) (ss : List Tmp) (F : Tmp → Value → World → Prop) (hlex : Region.lexB .any l.toArray = true) (hrel : relB l.toArray ss = true)
    (hc : Steps V St M F) (hV0 : V false { w0 with drawn := w0.drawn + 1 }) (hSt : ∀ d w w', St d w w' → Upto M w w') (hst : ∀ t d v w w', d ≠ t → F t v w → St d w w' → F t v w') (hsz : ∀ d ∈ ss, d < a.tmps.size)
    (h : wpRel V St P l.toArray M w0 ss F (fun a' => ∀ w', Upto M w0 w' → (∀ (s : Nat) (o : Oper), l.toArray[s]? = some o → isStore o = true → V true w') → (∀ t ∈ ss, F t (a'.tmps.getD t undef) w') → Q .normal a' w') l a) : (Code.region id l.toArray true).wp P Q a w0 := by
  simp only [Region.lexB, Bool.and_eq_true] at hlex
  have hok := relOk_of hrel
  have hlist : ∀ k, (Array.replicate l.toArray.size false).getD k false = false := fun k => getD_replicate_false _ _
  refine wp_region_any hm (wpAny_of_rel (V := V) (Q := fun a' => ∀ w', Upto M w0 w' → (∀ (s : Nat) (o : Oper), l.toArray[s]? = some o → isStore o = true → V true w') → (∀ t ∈ ss, F t (a'.tmps.getD t undef) w') → Q .normal a' w') hc hok hSt hst (fun a w hb hs hf hq => hq w hb hs hf) _ _ _ _ (by simp)
    ⟨⟨(Upto.refl _).drew, hsz, fun k o d hk _ _ _ => by rw [hlist] at hk; cases hk⟩, fun s o _ _ => by rw [hlist]; exact hV0⟩ ?_)
  exact wpAnyR_lex (md := .any) hok hSt hst hlex.1 l 0 (Array.replicate l.toArray.size false) a (by simp) (by simpa using hlex.2) h

/-- The same without a store, where all operations keep to M. -/
theorem wp_region_rel {id : Nat} {Q : Exit → Act → World → Prop} {a : Act} {l : List Oper} (hm : P.follows .mixedOrders = true) (M : Nat → Prop) (ss : List Tmp) (F : Tmp → Value → World → Prop) (hlex : Region.lexB .any l.toArray = true) (hrel : relB l.toArray ss = true)
    (hst : ∀ t v w w', F t v w → Upto M w w' → F t v w') (hsz : ∀ d ∈ ss, d < a.tmps.size)
    (h : wpRel (fun _ _ => True) (fun _ => Upto M) P l.toArray M w0 ss F (fun a' => ∀ w', Upto M w0 w' → (∀ t ∈ ss, F t (a'.tmps.getD t undef) w') → Q .normal a' w') l a) : (Code.region id l.toArray true).wp P Q a w0 :=
  wp_region_relV (V := fun _ _ => True) (St := fun _ => Upto M) hm M ss F hlex hrel ⟨fun _ _ _ _ _ _ => trivial, hst⟩ trivial (fun _ _ _ h => h) (fun t _ v w w' _ hF hU => hst t v w w' hF hU) hsz
    (wpRel_mono (fun a' h' w' hb _ hf => h' w' hb hf) l a h)

/-- The walk of the first n operations in any order, up to those behind them. -/
def wpAnyRL (V : Bool → World → Prop) (St : Tmp → World → World → Prop) (P : Program) (md : Region.Mode) (ops : Array Oper) (M : Nat → Prop) (w0 : World) (ss : List Tmp) (F : Tmp → Value → World → Prop) (n : Nat) (L : Array Bool → Act → Prop) : Nat → Array Bool → Act → Prop
  | 0, listed, a => Sat ops M w0 ss F listed a → L listed a
  | fuel + 1, listed, a => Sat ops M w0 ss F listed a → Region.ready md ops listed ≠ [] ∧
    ∀ i ∈ Region.ready md ops listed, i < n ∧ ∀ o, ops[i]? = some o → rOp V St P ops M w0 ss F o (wpAnyRL V St P md ops M w0 ss F n L fuel (listed.setIfInBounds i true)) a

theorem wpAnyRL_first {n : Nat} {L : Array Bool → Act → Prop} (hok : RelOk md ops ss) (hSt : ∀ d w w', St d w w' → Upto M w w') (hst : ∀ t d v w w', d ≠ t → F t v w → St d w w' → F t v w') {i : Nat} {oi : Oper} (hi : ops[i]? = some oi) (hsel : ∀ (j : Nat) (o : Oper) cs b, ops[j]? = some o → o.op ≠ .select cs b)
    (hsk : Region.sinkB md ops n = true) (hch : Region.chainB md ops n = true) (hn : n < ops.size) (hin : i < n) (hdone : ∀ listed a, L listed a → ∀ j ∈ Region.ready md ops listed, n ≤ j) :
    ∀ (fuel : Nat) (listed : Array Bool) (a : Act), HeadInv md ops n listed →
      (∀ j oj, ops[j]? = some oj → j ≠ i → listed.getD j true = false → (∀ e ∈ oj.after, Region.binds md e = true → e.on ≠ i) → oi.apart ops oj = true) →
      i ∈ Region.ready md ops listed → rOp V St P ops M w0 ss F oi (wpAnyRL V St P md ops M w0 ss F n L fuel (listed.setIfInBounds i true)) a → wpAnyRL V St P md ops M w0 ss F n L (fuel + 1) listed a := by
  intro fuel
  induction fuel with
  | zero =>
    intro listed a inv _ hr H hsat
    have hun := (mem_ready.1 hr).1
    refine ⟨fun h => (by rw [h] at hr; cases hr), fun j hj => ?_⟩
    have hjn : j < n := by
      rcases Nat.lt_or_ge j n with h | h
      · exact h
      · exact absurd hj (tail_waits hsk hch hn inv _ i rfl hin hun j h)
    refine ⟨hjn, fun oj hoj => ?_⟩
    by_cases hji : j = i
    · subst hji; rw [hi] at hoj; injection hoj with e; subst e; exact H
    · obtain ⟨R, h1, h2⟩ := H
      obtain ⟨v, hv, hs⟩ := sat_step hok hSt hst hi hr hsat h1
      have := hdone _ _ (h2 v hv hs) j (ready_mono hj hji)
      omega
  | succ fuel ih =>
    intro listed a inv hfree hr H hsat
    have hun := (mem_ready.1 hr).1
    refine ⟨fun h => (by rw [h] at hr; cases hr), fun j hj => ?_⟩
    have hjn : j < n := by
      rcases Nat.lt_or_ge j n with h | h
      · exact h
      · exact absurd hj (tail_waits hsk hch hn inv _ i rfl hin hun j h)
    refine ⟨hjn, fun oj hoj => ?_⟩
    by_cases hji : j = i
    · subst hji; rw [hi] at hoj; injection hoj with e; subst e; exact H
    · obtain ⟨hjun, oj', hoj', hall⟩ := mem_ready.1 hj
      rw [hoj] at hoj'
      injection hoj' with e
      subst e
      have hnot : ∀ e ∈ oj.after, Region.binds md e = true → e.on ≠ i := fun e he hb heq => by
        have h1 := hall e he hb
        rw [heq, getD_both hun] at h1
        cases h1
      have hap := hfree j oj hoj hji hjun hnot
      obtain ⟨p1, p2, p3⟩ := Oper.apart_spec hap
      have hsi := fun cs b => hsel i oi cs b hi
      have hsj := fun cs b => hsel j oj cs b hoj
      obtain ⟨Ri, hRi, hK⟩ := H
      obtain ⟨v1, hv1, hs1⟩ := sat_step hok hSt hst hi hr hsat hRi
      obtain ⟨Rj, hRj, _⟩ := ((hK v1 hv1 hs1).2 j (ready_mono hj hji)).2 oj hoj
      rw [Stat.put hsj p1] at hRj
      have hjun' : ∀ L : Array Bool, L = listed.setIfInBounds i true → L.getD j true = false := fun L hL => by rw [hL, getD_set_ne' (Ne.symm hji)]; exact hjun
      refine ⟨Rj, hRj, fun u hu => ?_⟩
      have hfree' : ∀ k ok, ops[k]? = some ok → k ≠ i → (listed.setIfInBounds j true).getD k true = false →
          (∀ e ∈ ok.after, Region.binds md e = true → e.on ≠ i) → oi.apart ops ok = true := fun k ok hk hki hun hno => by
        refine hfree k ok hk hki ?_ hno
        by_cases hjk : j = k
        · subst hjk; exact hjun
        · rwa [getD_set_ne' hjk] at hun
      refine ih (listed.setIfInBounds j true) (a.put oj.dst u) (inv.set hj hjn) hfree' (ready_mono hr (Ne.symm hji)) ⟨Ri, (Stat.put hsi p3).2 hRi, fun v hv => ?_⟩
      rw [Array.setIfInBounds_comm _ _ hji, ← Act.put_comm a v u p2]
      cases fuel with
      | zero =>
        intro hs2
        have hs3 := sat_drop (a := a.put oi.dst v) (listed := listed.setIfInBounds i true) hok hoj (hjun' _ rfl) hs2
        obtain ⟨Rj', hRj', h2⟩ := ((hK v hv hs3).2 j (ready_mono hj hji)).2 oj hoj
        rw [Stat.put hsj p1] at hRj'
        rw [← hRj.uniq hRj'] at h2
        exact h2 u hu hs2
      | succ fuel =>
        intro hs2
        have hs3 := sat_drop (a := a.put oi.dst v) (listed := listed.setIfInBounds i true) hok hoj (hjun' _ rfl) hs2
        obtain ⟨Rj', hRj', h2⟩ := ((hK v hv hs3).2 j (ready_mono hj hji)).2 oj hoj
        rw [Stat.put hsj p1] at hRj'
        rw [← hRj.uniq hRj'] at h2
        exact h2 u hu hs2

theorem wpAnyRL_lex {n g : Nat} {Lq : Act → Prop} (hok : RelOk md ops ss) (hSt : ∀ d w w', St d w w' → Upto M w w') (hst : ∀ t d v w w', d ≠ t → F t v w → St d w w' → F t v w') (hsel : Region.noSelect ops = true)
    (hsk : Region.sinkB md ops n = true) (hch : Region.chainB md ops n = true) (hn : n < ops.size) : ∀ (l : List Oper) (k : Nat) (listed : Array Bool) (a : Act), (∀ j, j < l.length → l[j]? = ops[k + j]?) → k + l.length = n → HeadInv md ops n listed →
    (∀ j, j < k → listed.getD j false = true) → Region.lexHead md ops g l.length k listed = true → wpRel V St P ops M w0 ss F Lq l a →
    wpAnyRL V St P md ops M w0 ss F n (fun listed' a' => Region.seqB md ops g n listed' = true ∧ (∀ j, j < n → listed'.getD j false = true) ∧ Lq a') l.length listed a
  | [], k, listed, a, _, hk, _, hall, hB, h => by
    have : k = n := by simpa using hk
    subst this
    exact fun _ => ⟨by simpa [Region.lexHead] using hB, hall, h⟩
  | o :: l, k, listed, a, hl, hk, inv, hall, hB, h => by
    have h0 : ops[k]? = some o := by simpa using (hl 0 (by simp)).symm
    simp only [List.length_cons, Region.lexHead, Bool.and_eq_true] at hB
    obtain ⟨⟨hr, hf⟩, hB'⟩ := hB
    have hkn : k < n := by simp only [List.length_cons] at hk; omega
    have hr' : k ∈ Region.ready md ops listed := by simpa using hr
    have hks : k < listed.size := by rw [inv.size]; omega
    exact wpAnyRL_first hok hSt hst h0 (Region.noSelect_spec hsel) hsk hch hn hkn (fun listed' a' hL => seqB_ready hL.1) l.length listed a inv (Region.free_spec h0 hf) hr'
      (rOp_mono (fun a' h' => wpAnyRL_lex hok hSt hst hsel hsk hch hn l (k + 1) _ _ (fun j hj => by have := hl (j + 1) (by simp; omega); simpa [Nat.add_assoc, Nat.add_comm 1 j] using this) (by simp only [List.length_cons] at hk; omega) (inv.set hr' hkn)
        (fun j hj => by
          by_cases hjk : k = j
          · subst hjk; simp [hks]
          · rw [getD_set_ne' hjk]; exact hall j (by omega)) hB' h') h)

theorem wpAny_of_relHead {n g : Nat} {L : Array Bool → Act → Prop} {Q' : Exit → Act → World → Prop} (hc : Steps V St M F) (hok : RelOk md ops ss) (hSt : ∀ d w w', St d w w' → Upto M w w') (hst : ∀ t d v w w', d ≠ t → F t v w → St d w w' → F t v w')
    (hL : ∀ listed a w, listed.size = ops.size → InvV V ops M w0 ss F listed a w → L listed a → wpAny P md ops Q' g listed a w) : ∀ (f : Nat) (listed : Array Bool) (a : Act) (w : World), listed.size = ops.size → InvV V ops M w0 ss F listed a w →
    wpAnyRL V St P md ops M w0 ss F n L f listed a → wpAny P md ops Q' (f + g) listed a w
  | 0, listed, a, w, hsz, hw, h => by rw [Nat.zero_add]; exact hL _ _ _ hsz hw (h ⟨w, hw.toInv⟩)
  | f + 1, listed, a, w, hsz, hw, h => by
    rw [show f + 1 + g = (f + g) + 1 by omega]
    have h := h ⟨w, hw.toInv⟩
    refine ⟨fun h0 => absurd h0 h.1, fun i hi => ?_⟩
    obtain ⟨_, o, ho, _⟩ := mem_ready.1 hi
    exact wpOp_of_rOp hc hok hSt hst ho hi hw (fun a' w' hw' hk => wpAny_of_relHead hc hok hSt hst hL f _ a' w' (by simpa using hsz) hw' hk) ((h.2 i hi).2 o ho)

/-- **The first n operations in the order of the text, the others, which wait for one another, in the world in which they are.** -/
theorem wp_region_rel_tailV {id : Nat} {Q : Exit → Act → World → Prop} {a : Act} {l : List Oper} (n : Nat) (hm : P.follows .mixedOrders = true) (M : Nat → Prop) (ss : List Tmp) (F : Tmp → Value → World → Prop) (hB : Region.lexTailB .any l.toArray n = true) (hrel : relB l.toArray ss = true)
    (hcov : (ss.all fun t => (l.take n).any fun o => o.dst == some t) = true) (hc : Steps V St M F) (hV0 : V false { w0 with drawn := w0.drawn + 1 }) (hSt : ∀ d w w', St d w w' → Upto M w w') (hst : ∀ t d v w w', d ≠ t → F t v w → St d w w' → F t v w') (hsz : ∀ d ∈ ss, d < a.tmps.size)
    (h : wpRel V St P l.toArray M w0 ss F (fun a' => ∀ w', Upto M w0 w' → (∀ (s : Nat) (o : Oper), s < n → l.toArray[s]? = some o → isStore o = true → V true w') → (∀ t ∈ ss, F t (a'.tmps.getD t undef) w') → wpList P l.toArray Q (l.drop n) a' w') (l.take n) a) : (Code.region id l.toArray true).wp P Q a w0 := by
  simp only [Region.lexTailB, Bool.and_eq_true, decide_eq_true_eq] at hB
  obtain ⟨⟨⟨⟨hsel, hn⟩, hs⟩, hch⟩, hlex⟩ := hB
  have hn' : n < l.length := by simpa using hn
  have htl : (l.take n).length = n := by simp; omega
  have hdl : (l.drop n).length = l.toArray.size - n := by simp
  have hok := relOk_of hrel
  have inv0 : HeadInv .any l.toArray n (Array.replicate l.toArray.size false) :=
    ⟨by simp, fun j oj _ hl => (by rw [getD_replicate_false] at hl; cases hl), fun t _ ht => getD_in (by simpa using ht) (getD_replicate_false _ _)⟩
  have H := wpAnyRL_lex (md := .any) (g := l.toArray.size - n) hok hSt hst hsel hs hch hn (l.take n) 0 _ a (fun j hj => by
    have hj' : j < n := by rw [htl] at hj; exact hj
    simp [hj']) (by simpa using htl) inv0 (fun j hj => by omega) (by rw [htl]; exact hlex) h
  refine wp_region_any hm ?_
  have := wpAny_of_relHead (Q' := Q) (g := l.toArray.size - n) hc hok hSt hst (fun listed a' w hsz hw hL => by
    have hf : ∀ t ∈ ss, F t (a'.tmps.getD t undef) w := fun t ht => by
      have h1 := List.all_eq_true.1 hcov t ht
      obtain ⟨o, ho, hd⟩ := List.any_eq_true.1 h1
      obtain ⟨i, hi, e⟩ := List.getElem_of_mem ho
      have hin : i < n := by rw [htl] at hi; exact hi
      refine hw.facts i o t (hL.2.1 i hin) ?_ (by simpa using hd) ht
      rw [← e]
      simp [show i < l.length by omega]
    have := wpAny_of_seq (md := .any) (Q' := Q) (l.drop n) n listed a' w (fun j => by simp [List.getElem?_drop]) (by rw [hdl]; exact hL.1) (hL.2.2 w hw.below (fun s o hs ho hS => by have := hw.st s o ho hS; rwa [hL.2.1 s hs] at this) hf)
    rwa [hdl] at this) _ _ _ { w0 with drawn := w0.drawn + 1 } (by simp) ⟨⟨(Upto.refl _).drew, hsz, fun k o d hk _ _ _ => by rw [getD_replicate_false] at hk; cases hk⟩, fun s o _ _ => by rw [getD_replicate_false]; exact hV0⟩ H
  rw [htl, show n + (l.toArray.size - n) = l.toArray.size by omega] at this
  exact this
/-- The same without a store among them, where all operations keep to M. -/
theorem wp_region_rel_tail {id : Nat} {Q : Exit → Act → World → Prop} {a : Act} {l : List Oper} (n : Nat) (hm : P.follows .mixedOrders = true) (M : Nat → Prop) (ss : List Tmp) (F : Tmp → Value → World → Prop) (hB : Region.lexTailB .any l.toArray n = true) (hrel : relB l.toArray ss = true)
    (hcov : (ss.all fun t => (l.take n).any fun o => o.dst == some t) = true) (hst : ∀ t v w w', F t v w → Upto M w w' → F t v w') (hsz : ∀ d ∈ ss, d < a.tmps.size)
    (h : wpRel (fun _ _ => True) (fun _ => Upto M) P l.toArray M w0 ss F (fun a' => ∀ w', Upto M w0 w' → (∀ t ∈ ss, F t (a'.tmps.getD t undef) w') → wpList P l.toArray Q (l.drop n) a' w') (l.take n) a) : (Code.region id l.toArray true).wp P Q a w0 :=
  wp_region_rel_tailV (V := fun _ _ => True) (St := fun _ => Upto M) n hm M ss F hB hrel hcov ⟨fun _ _ _ _ _ _ => trivial, hst⟩ trivial (fun _ _ _ h => h) (fun t _ v w w' _ hF hU => hst t v w w' hF hU) hsz
    (wpRel_mono (fun a' h' w' hb _ hf => h' w' hb hf) _ a h)

/-- A stretch of plain operations: the kit's quiet walk. -/
theorem wpRel_quiet {Q : Act → Prop} : ∀ (l rest : List Oper) (a : Act), (l.all fun o => plainOp o.op && (match o.dst with | some d => !ss.contains d | none => true)) = true →
    wpQuiet P ops (fun w' => ∃ d : BelM M w0, w' = d.1) (fun a' => wpRel V St P ops M w0 ss F Q rest a') l a → wpRel V St P ops M w0 ss F Q (l ++ rest) a
  | [], _, _, _, h => h
  | o :: l, rest, a, hl, h => by
    rw [List.all_cons, Bool.and_eq_true, Bool.and_eq_true] at hl
    have hd : ∀ d, o.dst = some d → d ∉ ss := fun d hd hs => by
      have := hl.1.2
      rw [hd] at this
      simp [hs] at this
    by_cases hw : Region.wanted o (yielded ops a.tmps) = true
    · rw [wpQuiet, if_pos hw] at h
      obtain ⟨v, h1, h2⟩ := h
      exact ⟨_, .inl ⟨hw, hl.1.1, hd, v, h1, rfl⟩, fun u hu => by subst hu; exact wpRel_quiet l rest _ hl.2 h2⟩
    · rw [wpQuiet, if_neg hw] at h
      exact ⟨_, .inr (.inr (.inr ⟨by simpa using hw, plain_not_store hl.1.1, fun d h1 h2 => absurd h2 (hd d h1), rfl⟩)), fun u hu => by subst hu; exact wpRel_quiet l rest _ hl.2 h⟩
theorem wpRel_seg {Q : Act → Prop} {l : List Oper} {a : Act} (n : Nat) (hl : ((l.take n).all fun o => plainOp o.op && (match o.dst with | some d => !ss.contains d | none => true)) = true)
    (h : wpQuiet P ops (fun w' => ∃ d : BelM M w0, w' = d.1) (fun a' => wpRel V St P ops M w0 ss F Q (l.drop n) a') (l.take n) a) : wpRel V St P ops M w0 ss F Q l a := by
  have := wpRel_quiet (l.take n) (l.drop n) a hl h
  rwa [List.take_append_drop] at this

theorem wpQuiet_value {C : World → Prop} {Q : Act → Prop} {o : Oper} {rest : List Oper} {a : Act} (v : Value) (hw : Region.wanted o (yielded ops a.tmps) = true) (h : ∀ w, C w → (execOp a.eval o).run P w = .ok (.value v) w)
    (hk : wpQuiet P ops C Q rest (a.put o.dst v)) : wpQuiet P ops C Q (o :: rest) a := by
  rw [wpQuiet, if_pos hw]
  exact ⟨v, fun w hC => by unfold Oper.quietAt; rw [h w hC]; exact ⟨rfl, rfl⟩, hk⟩
/-- An operation whose slot is one of 'ss'. -/
theorem wpRel_slot {Q : Act → Prop} {o : Oper} {rest : List Oper} {a : Act} {d : Tmp} (hw : Region.wanted o (yielded ops a.tmps) = true) (hd : o.dst = some d) (hs : d ∈ ss)
    (h : ∀ w, Upto M w0 w → Known ss F o a w → relUpon P (St d) (F d) w ((execOp a.eval o).run P w)) (hk : ∀ v, (∃ w, Upto M w0 w ∧ F d v w) → wpRel V St P ops M w0 ss F Q rest (a.put (some d) v)) (hns : isStore o = false := by rfl) : wpRel V St P ops M w0 ss F Q (o :: rest) a :=
  ⟨_, .inr (.inr (.inl ⟨hw, hns, d, hd, hs, h, rfl⟩)), fun v hv => by rw [hd]; exact hk v hv⟩
/-- The region's store. -/
theorem wpRel_store {Q : Act → Prop} {o : Oper} {rest : List Oper} {a : Act} (hw : Region.wanted o (yielded ops a.tmps) = true) (hS : isStore o = true) (hd : o.dst = none)
    (h : ∀ w, Upto M w0 w → Known ss F o a w → V false w → ∃ w', (execOp a.eval o).run P w = .ok .skip w' ∧ Upto M w w' ∧ V true w') (hk : wpRel V St P ops M w0 ss F Q rest a) : wpRel V St P ops M w0 ss F Q (o :: rest) a :=
  ⟨_, .inr (.inl ⟨hw, hS, hd, h, rfl⟩), fun v _ => by rw [hd]; exact hk⟩
/-- A slot of which it is said what value it holds. -/
theorem wpRel_fixed {Q : Act → Prop} {o : Oper} {rest : List Oper} {a : Act} {d : Tmp} (u : Value) (hw : Region.wanted o (yielded ops a.tmps) = true) (hd : o.dst = some d) (hs : d ∈ ss) (hF : ∀ v w, F d v w → v = u)
    (h : ∀ w, Upto M w0 w → Known ss F o a w → relUpon P (St d) (F d) w ((execOp a.eval o).run P w)) (hk : wpRel V St P ops M w0 ss F Q rest (a.put (some d) u)) (hns : isStore o = false := by rfl) : wpRel V St P ops M w0 ss F Q (o :: rest) a :=
  wpRel_slot hw hd hs h (fun v ⟨w, _, hv⟩ => by rw [hF v w hv]; exact hk) hns
theorem wpRel_nil {Q : Act → Prop} {a : Act} (h : Q a) : wpRel V St P ops M w0 ss F Q [] a := h

end
theorem relUpon_enter {P : Program} {T : World → World → Prop} {S : Value → World → Prop} {w : World} {f : FuncId} {args : Array Value} {r : Result Next} (hr : r = .ok (.enter f args) w) (h : Calls P f args w (fun e w'' => ∃ v, e = .returned v ∧ T w w'' ∧ S v w'')) : relUpon P T S w r := by
  rw [hr]; exact ⟨rfl, h⟩
theorem relUpon_val {P : Program} {T : World → World → Prop} {S : Value → World → Prop} {w w' : World} {v : Value} {r : Result Next} (hr : r = .ok (.value v) w') (hb : T w w') (h : S v w') : relUpon P T S w r := by
  rw [hr]; exact ⟨hb, h⟩
/-- From a contract that says what value comes back. -/
theorem calls_fixed {P : Program} {M : Nat → Prop} {f : FuncId} {args : Array Value} {w : World} {S : Value → World → Prop} {u : Value} (h : Calls P f args w fun e w' => e = .returned u ∧ Below w.heap.size w w') (hS : ∀ w', S u w') :
    Calls P f args w (fun e w'' => ∃ v, e = .returned v ∧ Upto M w w'' ∧ S v w'') := h.mono fun _ w' ⟨he, hb⟩ => ⟨u, he, Upto.of_below hb, hS w'⟩
theorem calls_fixed0 {P : Program} {M : Nat → Prop} {f : FuncId} {args : Array Value} {w : World} {S : Value → World → Prop} {u : Value} (h : Calls P f args w fun e w' => e = .returned u ∧ w = w') (hS : ∀ w', S u w') :
    Calls P f args w (fun e w'' => ∃ v, e = .returned v ∧ Upto M w w'' ∧ S v w'') := h.mono fun _ w' ⟨he, hb⟩ => ⟨u, he, hb ▸ Upto.refl _, hS w'⟩
theorem calls_fixedN {P : Program} {M : Nat → Prop} {f : FuncId} {args : Array Value} {w : World} {S : Value → World → Prop} {u : Value} (h : Calls P f args w fun e w' => e = .returned u ∧ ∃ k, w' = w.drewN k) (hS : ∀ w', S u w') :
    Calls P f args w (fun e w'' => ∃ v, e = .returned v ∧ Upto M w w'' ∧ S v w'') := h.mono fun _ w' ⟨he, k, hb⟩ => ⟨u, he, hb ▸ (Upto.refl _).drewN k, hS w'⟩

theorem exec_load_row {P : Program} {o : Oper} {a : Act} {w : World} (ty : TypeId) (x : Operand) (ho : o.op = .load ty x)
    (g : Nat) (hx : a.eval x = .pointer (some ⟨g, 0, none⟩)) (t : TypeId) (cs : Array Value) (fr : Nat × Nat) (d : TypeDesc) (hg : w.heap[g]? = some (.cells cs t fr))
    (hu : P.underlying ty = some d) (hd : (match d with | .struct _ | .array _ _ => true | _ => false) = true) (hi : (P.info? ty).map (·.size) = some cs.size) :
    (execOp a.eval o).run P w = .ok (.value (.agg cs)) w := by
  unfold execOp
  simp only [ho, hx, Instr.loadAt, Instr.sureAddr, Sem.run_bind, Sem.run_pure, Result.andThen_ok, run_loadVar_row w g t ty cs fr d hg hu hd hi]

/-- What is said of the slots, as a list. -/
def Fof : List (Tmp × (Value → World → Prop)) → Tmp → Value → World → Prop
  | [], _, _, _ => True
  | p :: L, t, v, w => if p.1 = t then p.2 v w else Fof L t v w
def Stable (M : Nat → Prop) (S : Value → World → Prop) : Prop := ∀ v w w', S v w → Upto M w w' → S v w'
theorem Stable.fof {M : Nat → Prop} : ∀ {L : List (Tmp × (Value → World → Prop))} (_ : ∀ p ∈ L, Stable M p.2) (t : Tmp) (v : Value) (w w' : World), Fof L t v w → Upto M w w' → Fof L t v w'
  | [], _, _, _, _, _, _, _ => trivial
  | p :: L, h, t, v, w, w', hF, hb => by
    unfold Fof at hF ⊢
    split
    · rename_i he
      rw [if_pos he] at hF
      exact h p (by simp) v w w' hF hb
    · rename_i he
      rw [if_neg he] at hF
      exact Stable.fof (fun q hq => h q (by simp [hq])) t v w w' hF hb
theorem Stable.const {M : Nat → Prop} (u : Value) : Stable M (fun v _ => v = u) := fun _ _ _ h _ => h
end Go.Proofs.Ytabgmodllifgjaa
