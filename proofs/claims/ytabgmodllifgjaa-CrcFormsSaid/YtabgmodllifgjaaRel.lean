/- REGIONS WHOSE ORDER IS OPEN AND SOME OF WHOSE OPERATIONS MAKE MEMORY: one walk in the order of the text.
   The slots in 'ss' hold values that depend on the order (a new slice's address, say): of each the predicate F says what is known of it, in the world in which it is used.
   Every other operation yields one and the same value in every world that is as w0 was below B. -/
import Derived.Deep.Quiet
import Derived.BigQuiet
import Derived.Below
import Derived.KernelRfl
import Derived.Laws.Rows
namespace Go.Proofs.Ytabgmodllifgjaa
open Go.RowKit

/-- The worlds that are as w was below B. -/
def Bel (B : Nat) (w : World) := { w' : World // Below B w w' }
instance Bel.some_ (B : Nat) (w : World) : Nonempty (Bel B w) := ⟨⟨w, Below.refl _ _⟩⟩
theorem Bel.cell {B : Nat} {w : World} (d : Bel B w) {p : Addr} {u : Value} (h : w.cell? p = some u) (hp : p.block < B) : d.1.cell? p = some u := by rw [d.2.cell hp]; exact h

/-- Operations that yield a value (or stop), and never enter a function. -/
def plainOp : Op → Bool
  | .move _ | .assign _ | .pick _ _ _ | .load _ _ | .nilCheck _ | .binOp _ _ _ _ _ | .unOp _ _ _ | .convert _ _ _ | .fieldAddr _ _ _ | .field _ _ _ | .indexAddr _ _ _ | .index _ _ _ | .slice _ _ _ _ _ | .extract _ _
  | .makeInterface _ _ | .build _ _ | .typeAssert _ _ _ _ | .lookup _ _ _ _ => true
  | .call { callee := .builtin .len, .. } => true
  | .call { callee := .builtin .min, .. } => true
  | .call { callee := .builtin .max, .. } => true
  | _ => false

theorem andThen_not_enter (r : Result Value) (w' : World) (f : FuncId) (args : Array Value) : (r.andThen fun a w' => Result.ok (Next.value a) w') ≠ .ok (.enter f args) w' := by
  cases r <;> simp [Result.andThen]
theorem value_not_enter {P : Program} (s : Sem Value) (w w' : World) (f : FuncId) (args : Array Value) : (do let x ← s; pure (Next.value x) : Sem Next).run P w ≠ .ok (.enter f args) w' := by
  rw [Sem.run_bind]
  cases s.run P w <;> simp [Result.andThen]

theorem then_value_not_enter {P : Program} {α : Type} (s : Sem α) (v : Value) (w w' : World) (f : FuncId) (args : Array Value) : (do let _ ← s; pure (Next.value v) : Sem Next).run P w ≠ .ok (.enter f args) w' := by
  rw [Sem.run_bind]
  cases s.run P w <;> simp [Result.andThen]
theorem nil_not_enter {P : Program} (w w' : World) (f : FuncId) (args : Array Value) : (runtimePanic .nilDeref : Sem Next).run P w ≠ .ok (.enter f args) w' := by
  simp [runtimePanic, goPanic]
theorem plain_not_enter {P : Program} {o : Oper} (hp : plainOp o.op = true) (ρ : Operand → Value) (w w' : World) (f : FuncId) (args : Array Value) : (execOp ρ o).run P w ≠ .ok (.enter f args) w' := by
  obtain ⟨dst, op, type, pos, after, guard⟩ := o
  cases op <;> simp only [plainOp] at hp <;> simp only [execOp]
  case nilCheck x =>
    generalize ρ x = v
    split
    · exact nil_not_enter _ _ _ _
    · exact nil_not_enter _ _ _ _
    · exact nil_not_enter _ _ _ _
    · split
      · exact nil_not_enter _ _ _ _
      · intro h
        simp only [Sem.run_bind] at h
        revert h
        cases (program : Sem Program).run P w with
        | halt x w2 => simp [Result.andThen]
        | ok p w2 =>
          simp only [Result.andThen]
          split
          · rename_i x w3 _
            by_cases hq : (x != some false) = true
            · rw [if_pos hq]
              simp [unsupported]
            · rw [if_neg hq]
              simp
          · simp
      · simp
    · simp
  case call c =>
    obtain ⟨callee, cargs, argTypes⟩ := c
    cases callee
    case builtin b =>
      cases b
      all_goals first | (cases hp; done) | (simp only [resolve, Sem.run_bind, Sem.run_pure, Result.andThen_ok, invoke, builtin]; exact andThen_not_enter _ _ _ _)
    all_goals (cases hp; done)
  case pick c a b =>
    rw [Sem.run_bind]
    cases (asBool (ρ c)).run P w <;> simp [Result.andThen]
  all_goals first | (cases hp; done) | exact value_not_enter _ _ _ _ _ | simp

section
variable {P : Program} {ops : Array Oper} {md : Region.Mode} {ss : List Tmp} {F : Tmp → Value → World → Prop} {B : Nat} {w0 : World}

def CB (B : Nat) (w0 : World) : World → Prop := fun w' => ∃ d : Bel B w0, w' = d.1

def relUpon (P : Program) (S : Value → World → Prop) (w : World) : Result Next → Prop
  | .ok (.value u) w' => Below w.heap.size w w' ∧ S u w'
  | .ok (.enter f args) w' => w' = w ∧ Calls P f args w (fun e w'' => ∃ v, e = .returned v ∧ Below w.heap.size w w'' ∧ S v w'')
  | _ => False

def tempsOf (o : Oper) : List Tmp := o.op.operands.toList.filterMap fun | .tmp t => some t | _ => none
def Known (ss : List Tmp) (F : Tmp → Value → World → Prop) (o : Oper) (a : Act) (w : World) : Prop := ∀ t ∈ ss, t ∈ tempsOf o → F t (a.tmps.getD t undef) w
def RelsAt (P : Program) (B : Nat) (w0 : World) (ss : List Tmp) (F : Tmp → Value → World → Prop) (o : Oper) (a : Act) (S : Value → World → Prop) : Prop :=
  ∀ w, Below B w0 w → Known ss F o a w → relUpon P S w ((execOp a.eval o).run P w)

/-- What is known of the values that an operation may yield, without a world. -/
def Stat (P : Program) (ops : Array Oper) (B : Nat) (w0 : World) (ss : List Tmp) (F : Tmp → Value → World → Prop) (o : Oper) (a : Act) (R : Value → Prop) : Prop :=
  (Region.wanted o (yielded ops a.tmps) = true ∧ plainOp o.op = true ∧ (∀ d, o.dst = some d → d ∉ ss) ∧ ∃ v, (∀ w, CB B w0 w → o.quietAt P a (CB B w0) w v) ∧ R = fun u => u = v) ∨
  (Region.wanted o (yielded ops a.tmps) = true ∧ ∃ d, o.dst = some d ∧ d ∈ ss ∧ RelsAt P B w0 ss F o a (F d) ∧ R = fun v => ∃ w, Below B w0 w ∧ F d v w) ∨
  (Region.wanted o (yielded ops a.tmps) = false ∧ (∀ d, o.dst = some d → d ∈ ss → ∀ w, F d undef w) ∧ R = fun u => u = undef)

def rOp (P : Program) (ops : Array Oper) (B : Nat) (w0 : World) (ss : List Tmp) (F : Tmp → Value → World → Prop) (o : Oper) (K : Act → Prop) (a : Act) : Prop :=
  ∃ R, Stat P ops B w0 ss F o a R ∧ ∀ v, R v → K (a.put o.dst v)

/-- THE WALK in the order of the text. -/
def wpRel (P : Program) (ops : Array Oper) (B : Nat) (w0 : World) (ss : List Tmp) (F : Tmp → Value → World → Prop) (Q : Act → Prop) : List Oper → Act → Prop
  | [], a => Q a
  | o :: rest, a => rOp P ops B w0 ss F o (wpRel P ops B w0 ss F Q rest) a

structure Inv (ops : Array Oper) (B : Nat) (w0 : World) (ss : List Tmp) (F : Tmp → Value → World → Prop) (listed : Array Bool) (a : Act) (w : World) : Prop where
  below : Below B w0 w
  size : ∀ d ∈ ss, d < a.tmps.size
  facts : ∀ k o d, listed.getD k false = true → ops[k]? = some o → o.dst = some d → d ∈ ss → F d (a.tmps.getD d undef) w
def Sat (ops : Array Oper) (B : Nat) (w0 : World) (ss : List Tmp) (F : Tmp → Value → World → Prop) (listed : Array Bool) (a : Act) : Prop := ∃ w, Inv ops B w0 ss F listed a w

def wpAnyR (P : Program) (md : Region.Mode) (ops : Array Oper) (B : Nat) (w0 : World) (ss : List Tmp) (F : Tmp → Value → World → Prop) (Q : Act → Prop) : Nat → Array Bool → Act → Prop
  | 0, listed, a => Sat ops B w0 ss F listed a → Region.ready md ops listed = [] ∧ Q a
  | fuel + 1, listed, a => Sat ops B w0 ss F listed a → (Region.ready md ops listed = [] → Q a) ∧
    ∀ i ∈ Region.ready md ops listed, ∀ o, ops[i]? = some o → rOp P ops B w0 ss F o (wpAnyR P md ops B w0 ss F Q fuel (listed.setIfInBounds i true)) a

/-- What is asked of a region by its looks. -/
structure RelOk (md : Region.Mode) (ops : Array Oper) (ss : List Tmp) : Prop where
  dist : ∀ (i j : Nat) (oi oj : Oper) (d : Tmp), ops[i]? = some oi → ops[j]? = some oj → oi.dst = some d → oj.dst = some d → d ∈ ss → i = j
  dep : ∀ (i : Nat) (oi : Oper) (t : Tmp), ops[i]? = some oi → t ∈ tempsOf oi → t ∈ ss → ∃ e ∈ oi.after, Region.binds md e = true ∧ ∃ o' : Oper, ops[e.on]? = some o' ∧ o'.dst = some t
  back : ∀ (i : Nat) (oi : Oper), ops[i]? = some oi → ∀ e ∈ oi.after, Region.binds md e = true → e.on < i
  cover : ∀ t ∈ ss, ∃ (i : Nat) (oi : Oper), ops[i]? = some oi ∧ oi.dst = some t

theorem put_same (a : Act) (d : Tmp) (v : Value) (h : d < a.tmps.size) : (a.put (some d) v).tmps.getD d undef = v := by simp [Act.put, h]
theorem put_other (a : Act) (x : Option Tmp) (d : Tmp) (v : Value) (h : x ≠ some d) : (a.put x v).tmps.getD d undef = a.tmps.getD d undef := by
  cases x with
  | none => rfl
  | some e =>
    have hne : e ≠ d := fun he => h (he ▸ rfl)
    simp [Act.put, Array.getElem?_setIfInBounds_ne hne]
theorem put_size (a : Act) (x : Option Tmp) (v : Value) : (a.put x v).tmps.size = a.tmps.size := by cases x <;> simp [Act.put]

theorem getD_set_ne' {listed : Array Bool} {i k : Nat} (h : i ≠ k) (b : Bool) : (listed.setIfInBounds i true).getD k b = listed.getD k b := by
  simp [Array.getElem?_setIfInBounds_ne h]

theorem tempsOf_looks {o : Oper} {t : Tmp} (h : t ∈ tempsOf o) : t ∈ o.looksAt ops := List.mem_append_left _ h

theorem Stat.put {o : Oper} {a : Act} {R : Value → Prop} {x : Option Tmp} {u : Value} (hs : ∀ cs b, o.op ≠ .select cs b) (hap : ∀ d, x = some d → d ∉ o.looksAt ops) :
    Stat P ops B w0 ss F o (a.put x u) R ↔ Stat P ops B w0 ss F o a R := by
  have hk : ∀ w, Known ss F o (a.put x u) w ↔ Known ss F o a w := fun w => by
    unfold Known
    constructor <;> intro h t ht hto <;> have := h t ht hto
    · rwa [put_other a x t u (fun e => hap t e (tempsOf_looks hto))] at this
    · rwa [put_other a x t u (fun e => hap t e (tempsOf_looks hto))]
  have he := execOp_put (ops := ops) o hs a x u hap
  have hw := wanted_put (ops := ops) o a x u hap
  unfold Stat RelsAt Oper.quietAt
  simp only [he, hw, hk]

theorem Stat.uniq {o : Oper} {a : Act} {R R' : Value → Prop} (h : Stat P ops B w0 ss F o a R) (h' : Stat P ops B w0 ss F o a R') : R = R' := by
  rcases h with ⟨hw, hp, hd, v, hv, rfl⟩ | ⟨hw, d, hd, hs, _, rfl⟩ | ⟨hw, _, rfl⟩ <;> rcases h' with ⟨hw', hp', hd', v', hv', rfl⟩ | ⟨hw', d', hd', hs', _, rfl⟩ | ⟨hw', _, rfl⟩
  · have h1 := hv w0 ⟨⟨w0, Below.refl _ _⟩, rfl⟩
    have h2 := hv' w0 ⟨⟨w0, Below.refl _ _⟩, rfl⟩
    have hne := fun f args w' => plain_not_enter hp a.eval w0 w' f args (P := P)
    unfold Oper.quietAt at h1 h2
    generalize (execOp a.eval o).run P w0 = r at *
    cases r with
    | ok n w' =>
      cases n <;> simp only [Oper.quietUpon] at h1 h2
      case value u => rw [← h1.2, ← h2.2]
      case skip => rw [h1.2, h2.2]
      case enter f args => exact absurd rfl (hne f args w')
    | halt x w' => simp only [Oper.quietUpon] at h1
  · exact absurd hs' (hd d' hd')
  · rw [hw] at hw'; cases hw'
  · exact absurd hs (hd' d hd)
  · rw [hd] at hd'; injection hd' with e; subst e; rfl
  · rw [hw] at hw'; cases hw'
  · rw [hw] at hw'; cases hw'
  · rw [hw] at hw'; cases hw'
  · rfl

/-- One operation carried out: what it leaves. -/
theorem Inv.step (hok : RelOk md ops ss) {listed : Array Bool} {a : Act} {w w' : World} {i : Nat} {o : Oper} {v : Value} (hi : ops[i]? = some o) (hB : B ≤ w0.heap.size)
    (hst : ∀ t v w w', F t v w → Below w.heap.size w w' → F t v w') (h : Inv ops B w0 ss F listed a w) (hb : Below w.heap.size w w') (hv : ∀ d, o.dst = some d → d ∈ ss → F d v w') :
    Inv ops B w0 ss F (listed.setIfInBounds i true) (a.put o.dst v) w' := by
  refine ⟨h.below.trans (hb.mono (Nat.le_trans hB h.below.size)), fun d hd => by rw [put_size]; exact h.size d hd, fun k ok d hk hok' hd hs => ?_⟩
  by_cases hki : i = k
  · subst hki
    rw [hi] at hok'
    injection hok' with e
    subst e
    rw [hd, put_same a d v (h.size d hs)]
    exact hv d hd hs
  · rw [getD_set_ne' hki] at hk
    rw [put_other a o.dst d v (fun e => hki (hok.dist i k o ok d hi hok' e hd hs))]
    exact hst _ _ _ _ (h.facts k ok d hk hok' hd hs) hb

theorem Inv.known (hok : RelOk md ops ss) {listed : Array Bool} {a : Act} {w : World} {i : Nat} {o : Oper} (hi : ops[i]? = some o) (hr : i ∈ Region.ready md ops listed) (h : Inv ops B w0 ss F listed a w) : Known ss F o a w := by
  intro t ht hto
  obtain ⟨_, oi, hoi, hall⟩ := mem_ready.1 hr
  rw [hi] at hoi
  injection hoi with e
  subst e
  obtain ⟨e, he, hbd, o', ho', hd⟩ := hok.dep i o t hi hto ht
  exact h.facts e.on o' t (hall e he hbd) ho' hd ht

/-- From a world in which the facts hold the operation yields one of its values. -/
theorem sat_step (hok : RelOk md ops ss) (hB : B ≤ w0.heap.size) (hst : ∀ t v w w', F t v w → Below w.heap.size w w' → F t v w')
    {listed : Array Bool} {a : Act} {i : Nat} {o : Oper} {R : Value → Prop} (hi : ops[i]? = some o) (hr : i ∈ Region.ready md ops listed) (hs : Sat ops B w0 ss F listed a) (h : Stat P ops B w0 ss F o a R) :
    ∃ v, R v ∧ Sat ops B w0 ss F (listed.setIfInBounds i true) (a.put o.dst v) := by
  obtain ⟨w, hw⟩ := hs
  have hk := hw.known hok hi hr
  rcases h with ⟨_, hp, hd, v, hv, rfl⟩ | ⟨_, d, hd, hds, hR, rfl⟩ | ⟨_, hu, rfl⟩
  · exact ⟨v, rfl, w, hw.step hok hi hB hst (Below.refl _ _) (fun d h1 h2 => absurd h2 (hd d h1))⟩
  · have h1 := hR w hw.below hk
    generalize (execOp a.eval o).run P w = r at h1
    cases r with
    | ok n w' =>
      cases n <;> simp only [relUpon] at h1
      case value u =>
        have hi2 := hw.step hok hi hB hst h1.1 (v := u) (fun d' h2 _ => by rw [hd] at h2; injection h2 with e; subst e; exact h1.2)
        exact ⟨u, ⟨w', hi2.below, h1.2⟩, w', hi2⟩
      case enter f args =>
        obtain ⟨_, hc⟩ := h1
        obtain ⟨e, w2, fr, ⟨u, _, hb, hF⟩, _⟩ := hc []
        have hi2 := hw.step hok hi hB hst hb (v := u) (fun d' h2 _ => by rw [hd] at h2; injection h2 with e; subst e; exact hF)
        exact ⟨u, ⟨w2, hi2.below, hF⟩, w2, hi2⟩
    | halt x w' => simp only [relUpon] at h1
  · exact ⟨undef, rfl, w, hw.step hok hi hB hst (Below.refl _ _) (fun d h1 h2 => hu d h1 h2 w)⟩

theorem sat_drop (hok : RelOk md ops ss) {listed : Array Bool} {a : Act} {j : Nat} {oj : Oper} {u : Value} (hj : ops[j]? = some oj) (hun : listed.getD j true = false) (h : Sat ops B w0 ss F (listed.setIfInBounds j true) (a.put oj.dst u)) :
    Sat ops B w0 ss F listed a := by
  obtain ⟨w, hw⟩ := h
  refine ⟨w, hw.below, fun d hd => by have := hw.size d hd; rwa [put_size] at this, fun k o d hk ho hd hs => ?_⟩
  have hkj : j ≠ k := by
    rintro rfl
    rcases Nat.lt_or_ge j listed.size with h' | h'
    · simp [h'] at hk hun; rw [hk] at hun; cases hun
    · simp [Array.getElem?_eq_none h'] at hk
  have h1 := hw.facts k o d (by rw [getD_set_ne' hkj]; exact hk) ho hd hs
  rwa [put_other a oj.dst d u (fun e => hkj (hok.dist j k oj o d hj ho e hd hs))] at h1

theorem rOp_mono {o : Oper} {a : Act} {K K' : Act → Prop} (h : ∀ a, K a → K' a) (hh : rOp P ops B w0 ss F o K a) : rOp P ops B w0 ss F o K' a :=
  let ⟨R, h1, h2⟩ := hh
  ⟨R, h1, fun v hv => h _ (h2 v hv)⟩

theorem wpAnyR_first {Q : Act → Prop} (hok : RelOk md ops ss) (hB : B ≤ w0.heap.size) (hst : ∀ t v w w', F t v w → Below w.heap.size w w' → F t v w') {i : Nat} {oi : Oper} (hi : ops[i]? = some oi) (hsel : ∀ (j : Nat) (o : Oper) cs b, ops[j]? = some o → o.op ≠ .select cs b) :
    ∀ (fuel : Nat) (listed : Array Bool) (a : Act),
      (∀ j oj, ops[j]? = some oj → j ≠ i → listed.getD j true = false → (∀ e ∈ oj.after, Region.binds md e = true → e.on ≠ i) → oi.apart ops oj = true) →
      i ∈ Region.ready md ops listed → rOp P ops B w0 ss F oi (wpAnyR P md ops B w0 ss F Q fuel (listed.setIfInBounds i true)) a → wpAnyR P md ops B w0 ss F Q (fuel + 1) listed a := by
  intro fuel
  induction fuel with
  | zero =>
    intro listed a _ hr H hsat
    refine ⟨fun h => (by rw [h] at hr; cases hr), fun j hj oj hoj => ?_⟩
    by_cases hji : j = i
    · subst hji; rw [hi] at hoj; injection hoj with e; subst e; exact H
    · obtain ⟨R, h1, h2⟩ := H
      obtain ⟨v, hv, hs⟩ := sat_step hok hB hst hi hr hsat h1
      have := ready_mono hj hji
      rw [(h2 v hv hs).1] at this
      cases this
  | succ fuel ih =>
    intro listed a hfree hr H hsat
    refine ⟨fun h => (by rw [h] at hr; cases hr), fun j hj oj hoj => ?_⟩
    by_cases hji : j = i
    · subst hji; rw [hi] at hoj; injection hoj with e; subst e; exact H
    · obtain ⟨hjun, oj', hoj', hall⟩ := mem_ready.1 hj
      rw [hoj] at hoj'
      injection hoj' with e
      subst e
      have hnot : ∀ e ∈ oj.after, Region.binds md e = true → e.on ≠ i := fun e he hb heq => by
        have h1 := hall e he hb
        have h0 := (mem_ready.1 hr).1
        rw [heq] at h1
        rcases Nat.lt_or_ge i listed.size with h' | h'
        · simp [h'] at h0 h1; rw [h0] at h1; cases h1
        · simp [Array.getElem?_eq_none h'] at h1
      have hap := hfree j oj hoj hji hjun hnot
      obtain ⟨p1, p2, p3⟩ := Oper.apart_spec hap
      have hsi := fun cs b => hsel i oi cs b hi
      have hsj := fun cs b => hsel j oj cs b hoj
      obtain ⟨Ri, hRi, hK⟩ := H
      obtain ⟨v1, hv1, hs1⟩ := sat_step hok hB hst hi hr hsat hRi
      obtain ⟨Rj, hRj, _⟩ := (hK v1 hv1 hs1).2 j (ready_mono hj hji) oj hoj
      rw [Stat.put hsj p1] at hRj
      have hjun' : ∀ L : Array Bool, L = listed.setIfInBounds i true → L.getD j true = false := fun L hL => by rw [hL, getD_set_ne' (Ne.symm hji)]; exact hjun
      refine ⟨Rj, hRj, fun u hu => ?_⟩
      have hfree' : ∀ k ok, ops[k]? = some ok → k ≠ i → (listed.setIfInBounds j true).getD k true = false →
          (∀ e ∈ ok.after, Region.binds md e = true → e.on ≠ i) → oi.apart ops ok = true := fun k ok hk hki hun hno => by
        refine hfree k ok hk hki ?_ hno
        by_cases hjk : j = k
        · subst hjk; exact hjun
        · rwa [getD_set_ne' hjk] at hun
      refine ih (listed.setIfInBounds j true) (a.put oj.dst u) hfree' (ready_mono hr (Ne.symm hji)) ⟨Ri, (Stat.put hsi p3).2 hRi, fun v hv => ?_⟩
      rw [Array.setIfInBounds_comm _ _ hji, ← Act.put_comm a v u p2]
      cases fuel with
      | zero =>
        intro hs2
        have hs3 := sat_drop (a := a.put oi.dst v) (listed := listed.setIfInBounds i true) hok hoj (hjun' _ rfl) hs2
        obtain ⟨Rj', hRj', h2⟩ := (hK v hv hs3).2 j (ready_mono hj hji) oj hoj
        rw [Stat.put hsj p1] at hRj'
        rw [← hRj.uniq hRj'] at h2
        exact h2 u hu hs2
      | succ fuel =>
        intro hs2
        have hs3 := sat_drop (a := a.put oi.dst v) (listed := listed.setIfInBounds i true) hok hoj (hjun' _ rfl) hs2
        obtain ⟨Rj', hRj', h2⟩ := (hK v hv hs3).2 j (ready_mono hj hji) oj hoj
        rw [Stat.put hsj p1] at hRj'
        rw [← hRj.uniq hRj'] at h2
        exact h2 u hu hs2

theorem wpAnyR_lex {Q : Act → Prop} (hok : RelOk md ops ss) (hB : B ≤ w0.heap.size) (hst : ∀ t v w w', F t v w → Below w.heap.size w w' → F t v w') (hs : Region.noSelect ops = true) : ∀ (l : List Oper) (k : Nat) (listed : Array Bool) (a : Act), (∀ j, l[j]? = ops[k + j]?) →
    Region.lexFrom md ops l.length k listed = true → wpRel P ops B w0 ss F Q l a → wpAnyR P md ops B w0 ss F Q l.length listed a
  | [], _, _, _, _, hB', h => fun _ => ⟨by simpa [Region.lexFrom] using hB', h⟩
  | o :: l, k, listed, a, hl, hB', h => by
    have h0 : ops[k]? = some o := by simpa using (hl 0).symm
    simp only [List.length_cons, Region.lexFrom, Bool.and_eq_true] at hB'
    obtain ⟨⟨hr, hf⟩, hB''⟩ := hB'
    exact wpAnyR_first hok hB hst h0 (Region.noSelect_spec hs) l.length listed a (Region.free_spec h0 hf) (by simpa using hr)
      (rOp_mono (fun a' h' => wpAnyR_lex hok hB hst hs l (k + 1) _ _ (fun j => by have := hl (j + 1); simpa [Nat.add_assoc, Nat.add_comm 1 j] using this) hB'' h') h)

theorem wpOp_of_rOp (hok : RelOk md ops ss) (hB : B ≤ w0.heap.size) (hst : ∀ t v w w', F t v w → Below w.heap.size w w' → F t v w') {Q' : Exit → Act → World → Prop}
    {listed : Array Bool} {a : Act} {w : World} {i : Nat} {o : Oper} {K : Act → Prop} {K' : Act → World → Prop} (hi : ops[i]? = some o) (hr : i ∈ Region.ready md ops listed) (hw : Inv ops B w0 ss F listed a w)
    (h : ∀ a' w', Inv ops B w0 ss F (listed.setIfInBounds i true) a' w' → K a' → K' a' w') (hh : rOp P ops B w0 ss F o K a) : wpOp P ops Q' i K' a w := by
  have hk := hw.known hok hi hr
  obtain ⟨R, hR, hK⟩ := hh
  unfold wpOp
  simp only [hi]
  rcases hR with ⟨hwt, hp, hd, v, hv, rfl⟩ | ⟨hwt, d, hd, hds, hR, rfl⟩ | ⟨hwt, hu, rfl⟩
  · rw [if_pos hwt]
    refine .inl ?_
    have h3 := hv w ⟨⟨w, hw.below⟩, rfl⟩
    have hne := fun f args w' => plain_not_enter hp a.eval w w' f args (P := P)
    have hstep := h _ _ (hw.step hok hi hB hst (Below.refl _ _) (v := v) (fun d h1 h2 => absurd h2 (hd d h1))) (hK v rfl)
    unfold Oper.quietAt at h3
    unfold Oper.wp
    generalize (execOp a.eval o).run P w = r at *
    cases r with
    | ok n w' =>
      cases n <;> simp only [Oper.quietUpon] at h3 <;> simp only [Oper.upon]
      case value u => rw [h3.1, h3.2]; exact hstep
      case skip => rw [h3.1, ← h3.2]; exact hstep
      case enter f args => exact absurd rfl (hne f args w')
    | halt x w' => simp only [Oper.quietUpon] at h3
  · rw [if_pos hwt]
    refine .inl ?_
    have h1 := hR w hw.below hk
    unfold Oper.wp
    generalize (execOp a.eval o).run P w = r at *
    have go : ∀ u w', Below w.heap.size w w' → F d u w' → K' (a.put o.dst u) w' := fun u w' hb hF => by
      have hi2 := hw.step hok hi hB hst hb (v := u) (fun d' h2 _ => by rw [hd] at h2; injection h2 with e; subst e; exact hF)
      exact h _ _ hi2 (hK u ⟨w', hi2.below, hF⟩)
    cases r with
    | ok n w' =>
      cases n <;> simp only [relUpon] at h1 <;> simp only [Oper.upon]
      case value u => exact go u w' h1.1 h1.2
      case enter f args =>
        obtain ⟨rfl, hc⟩ := h1
        exact hc.mono fun e w2 ⟨u, he, hb, hF⟩ => by subst he; exact go u w2 hb hF
    | halt x w' => simp only [relUpon] at h1
  · rw [if_neg (by rw [hwt]; simp)]
    exact h _ _ (hw.step hok hi hB hst (Below.refl _ _) (v := undef) (fun d h1 h2 => hu d h1 h2 w)) (hK undef rfl)

theorem ready_nil_all (hok : RelOk md ops ss) {listed : Array Bool} (hsz : listed.size = ops.size) (h : Region.ready md ops listed = []) : ∀ k, k < ops.size → listed.getD k false = true := by
  intro k
  induction k using Nat.strongRecOn with
  | _ k ih =>
    intro hk
    rcases hb : listed.getD k false with _ | _
    · exfalso
      have ho : ops[k]? = some ops[k] := Array.getElem?_eq_getElem hk
      have : k ∈ Region.ready md ops listed := mem_ready.2 ⟨by
        have : k < listed.size := by omega
        simpa [this] using hb, ops[k], ho, fun e he hbd => by
          have hlt := hok.back k _ ho e he hbd
          exact ih e.on hlt (by omega)⟩
      rw [h] at this
      cases this
    · rfl

theorem wpAny_of_rel {Q : Act → Prop} {Q' : Exit → Act → World → Prop} (hok : RelOk md ops ss) (hB : B ≤ w0.heap.size) (hst : ∀ t v w w', F t v w → Below w.heap.size w w' → F t v w')
    (hQ : ∀ a w, Below B w0 w → (∀ t ∈ ss, F t (a.tmps.getD t undef) w) → Q a → Q' .normal a w) : ∀ (fuel : Nat) (listed : Array Bool) (a : Act) (w : World), listed.size = ops.size → Inv ops B w0 ss F listed a w →
    wpAnyR P md ops B w0 ss F Q fuel listed a → wpAny P md ops Q' fuel listed a w := by
  have fin : ∀ (listed : Array Bool) (a : Act) (w : World), listed.size = ops.size → Inv ops B w0 ss F listed a w → Region.ready md ops listed = [] → Q a → Q' .normal a w := fun listed a w hsz hw hn hq => by
    refine hQ a w hw.below (fun t ht => ?_) hq
    obtain ⟨i, oi, hi, hd⟩ := hok.cover t ht
    exact hw.facts i oi t (ready_nil_all hok hsz hn i (by rcases Nat.lt_or_ge i ops.size with h | h; exact h; rw [Array.getElem?_eq_none h] at hi; cases hi)) hi hd ht
  intro fuel
  induction fuel with
  | zero => intro listed a w hsz hw h; have h := h ⟨w, hw⟩; exact ⟨h.1, fin listed a w hsz hw h.1 h.2⟩
  | succ fuel ih =>
    intro listed a w hsz hw h
    have h := h ⟨w, hw⟩
    refine ⟨fun hn => fin listed a w hsz hw hn (h.1 hn), fun i hi => ?_⟩
    obtain ⟨_, o, ho, _⟩ := mem_ready.1 hi
    exact wpOp_of_rOp hok hB hst ho hi hw (fun a' w' hw' hk => ih _ a' w' (by simpa using hsz) hw' hk) (h.2 i hi o ho)

def relB (ops : Array Oper) (ss : List Tmp) : Bool :=
  (ops.toList.zipIdx.all fun (o, i) =>
    (o.after.toList.all fun e => !Region.binds .any e || decide (e.on < i)) &&
    ((tempsOf o).all fun t => !ss.contains t || o.after.toList.any fun e => Region.binds .any e && ((ops[e.on]?).bind (·.dst)) == some t) &&
    (match o.dst with
     | some d => !ss.contains d || ops.toList.zipIdx.all fun (o', j) => o'.dst != some d || j == i
     | none => true)) &&
  ss.all fun t => ops.toList.any fun o => o.dst == some t

theorem relOk_of (h : relB ops ss = true) : RelOk .any ops ss := by
  simp only [relB, Bool.and_eq_true, List.all_eq_true, List.any_eq_true] at h
  obtain ⟨h1, h2⟩ := h
  have hz : ∀ i o, ops[i]? = some o → (o, i) ∈ ops.toList.zipIdx := fun i o hi => by
    rw [List.mem_zipIdx_iff_getElem?]; simpa using hi
  refine ⟨fun i j oi oj d hi hj hdi hdj hd => ?_, fun i oi t hi ht hs => ?_, fun i oi hi e he hb => ?_, fun t ht => ?_⟩
  · have := (h1 _ (hz i oi hi)).2
    simp only [hdi] at this
    simp [hd] at this
    rcases this oj j (hz j oj hj) with h | h
    · exact absurd hdj h
    · exact h.symm
  · have := (h1 _ (hz i oi hi)).1.2 t ht
    have hs' : ss.contains t = true := by simpa using hs
    rw [hs', Bool.not_true, Bool.false_or, List.any_eq_true] at this
    obtain ⟨e, he, hbd⟩ := this
    rw [Bool.and_eq_true] at hbd
    obtain ⟨hb, hd⟩ := hbd
    refine ⟨e, by simpa using he, hb, ?_⟩
    cases ho : ops[e.on]? with
    | none => simp [ho] at hd
    | some o' => simp [ho] at hd; exact ⟨o', rfl, hd⟩
  · have := (h1 _ (hz i oi hi)).1.1 e (by simpa using he)
    simpa [hb] using this
  · obtain ⟨o, ho, hd⟩ := h2 t ht
    obtain ⟨i, hi, e⟩ := List.getElem_of_mem ho
    exact ⟨i, o, by rw [← e]; simp [Array.getElem?_eq_getElem (by simpa using hi)], by simpa using hd⟩

/-- **One walk in the order of the text serves every order.** -/
theorem wp_region_rel {id : Nat} {Q : Exit → Act → World → Prop} {a : Act} {l : List Oper} (hm : P.follows .mixedOrders = true) (B : Nat) (ss : List Tmp) (F : Tmp → Value → World → Prop) (hB : B ≤ w0.heap.size) (hlex : Region.lexB .any l.toArray = true) (hrel : relB l.toArray ss = true)
    (hst : ∀ t v w w', F t v w → Below w.heap.size w w' → F t v w') (hsz : ∀ d ∈ ss, d < a.tmps.size)
    (h : wpRel P l.toArray B w0 ss F (fun a' => ∀ w', Below B w0 w' → (∀ t ∈ ss, F t (a'.tmps.getD t undef) w') → Q .normal a' w') l a) : (Code.region id l.toArray true).wp P Q a w0 := by
  simp only [Region.lexB, Bool.and_eq_true] at hlex
  have hok := relOk_of hrel
  refine wp_region_any hm (wpAny_of_rel (Q := fun a' => ∀ w', Below B w0 w' → (∀ t ∈ ss, F t (a'.tmps.getD t undef) w') → Q .normal a' w') hok hB hst (fun a w hb hf hq => hq w hb hf) _ _ _ _ (by simp) ⟨(Below.refl _ _).drew, hsz, fun k o d hk _ _ _ => ?_⟩ ?_)
  · rcases Nat.lt_or_ge k l.length with h' | h' <;> simp [h'] at hk
  · exact wpAnyR_lex (md := .any) hok hB hst hlex.1 l 0 (Array.replicate l.toArray.size false) a (by simp) (by simpa using hlex.2) h

/-- A stretch of plain operations: the kit's quiet walk. -/
theorem wpRel_quiet {Q : Act → Prop} : ∀ (l rest : List Oper) (a : Act), (l.all fun o => plainOp o.op && (match o.dst with | some d => !ss.contains d | none => true)) = true →
    wpQuiet P ops (fun w' => ∃ d : Bel B w0, w' = d.1) (fun a' => wpRel P ops B w0 ss F Q rest a') l a → wpRel P ops B w0 ss F Q (l ++ rest) a
  | [], _, _, _, h => h
  | o :: l, rest, a, hl, h => by
    rw [List.all_cons, Bool.and_eq_true, Bool.and_eq_true] at hl
    have hd : ∀ d, o.dst = some d → d ∉ ss := fun d hd hs => by
      have := hl.1.2
      rw [hd] at this
      simp [hs] at this
    by_cases hw : Region.wanted o (yielded ops a.tmps) = true
    · rw [wpQuiet, if_pos hw] at h
      obtain ⟨v, h1, h2⟩ := h
      exact ⟨_, .inl ⟨hw, hl.1.1, hd, v, h1, rfl⟩, fun u hu => by subst hu; exact wpRel_quiet l rest _ hl.2 h2⟩
    · rw [wpQuiet, if_neg hw] at h
      exact ⟨_, .inr (.inr ⟨by simpa using hw, fun d h1 h2 => absurd h2 (hd d h1), rfl⟩), fun u hu => by subst hu; exact wpRel_quiet l rest _ hl.2 h⟩
theorem wpRel_seg {Q : Act → Prop} {l : List Oper} {a : Act} (n : Nat) (hl : ((l.take n).all fun o => plainOp o.op && (match o.dst with | some d => !ss.contains d | none => true)) = true)
    (h : wpQuiet P ops (fun w' => ∃ d : Bel B w0, w' = d.1) (fun a' => wpRel P ops B w0 ss F Q (l.drop n) a') (l.take n) a) : wpRel P ops B w0 ss F Q l a := by
  have := wpRel_quiet (l.take n) (l.drop n) a hl h
  rwa [List.take_append_drop] at this

theorem wpQuiet_value {C : World → Prop} {Q : Act → Prop} {o : Oper} {rest : List Oper} {a : Act} (v : Value) (hw : Region.wanted o (yielded ops a.tmps) = true) (h : ∀ w, C w → (execOp a.eval o).run P w = .ok (.value v) w)
    (hk : wpQuiet P ops C Q rest (a.put o.dst v)) : wpQuiet P ops C Q (o :: rest) a := by
  rw [wpQuiet, if_pos hw]
  exact ⟨v, fun w hC => by unfold Oper.quietAt; rw [h w hC]; exact ⟨rfl, rfl⟩, hk⟩
/-- An operation whose slot is one of 'ss'. -/
theorem wpRel_slot {Q : Act → Prop} {o : Oper} {rest : List Oper} {a : Act} {d : Tmp} (hw : Region.wanted o (yielded ops a.tmps) = true) (hd : o.dst = some d) (hs : d ∈ ss)
    (h : ∀ w, Below B w0 w → Known ss F o a w → relUpon P (F d) w ((execOp a.eval o).run P w)) (hk : ∀ v, (∃ w, Below B w0 w ∧ F d v w) → wpRel P ops B w0 ss F Q rest (a.put (some d) v)) : wpRel P ops B w0 ss F Q (o :: rest) a :=
  ⟨_, .inr (.inl ⟨hw, d, hd, hs, h, rfl⟩), fun v hv => by rw [hd]; exact hk v hv⟩
/-- A slot of which it is said what value it holds. -/
theorem wpRel_fixed {Q : Act → Prop} {o : Oper} {rest : List Oper} {a : Act} {d : Tmp} (u : Value) (hw : Region.wanted o (yielded ops a.tmps) = true) (hd : o.dst = some d) (hs : d ∈ ss) (hF : ∀ v w, F d v w → v = u)
    (h : ∀ w, Below B w0 w → Known ss F o a w → relUpon P (F d) w ((execOp a.eval o).run P w)) (hk : wpRel P ops B w0 ss F Q rest (a.put (some d) u)) : wpRel P ops B w0 ss F Q (o :: rest) a :=
  wpRel_slot hw hd hs h fun v ⟨w, _, hv⟩ => by rw [hF v w hv]; exact hk
theorem wpRel_nil {Q : Act → Prop} {a : Act} (h : Q a) : wpRel P ops B w0 ss F Q [] a := h

/-- A call: from the callee's contract. -/
theorem relUpon_call {S : Value → World → Prop} {w : World} {f : FuncId} {args : Array Value} (h : Calls P f args w (fun e w'' => ∃ v, e = .returned v ∧ Below w.heap.size w w'' ∧ S v w'')) : relUpon P S w (.ok (.enter f args) w) := ⟨rfl, h⟩
theorem relUpon_value {S : Value → World → Prop} {w w' : World} {v : Value} (hb : Below w.heap.size w w') (h : S v w') : relUpon P S w (.ok (.value v) w') := ⟨hb, h⟩
end

theorem relUpon_enter {P : Program} {S : Value → World → Prop} {w : World} {f : FuncId} {args : Array Value} {r : Result Next} (hr : r = .ok (.enter f args) w) (h : Calls P f args w (fun e w'' => ∃ v, e = .returned v ∧ Below w.heap.size w w'' ∧ S v w'')) : relUpon P S w r := by
  rw [hr]; exact ⟨rfl, h⟩
theorem relUpon_val {P : Program} {S : Value → World → Prop} {w w' : World} {v : Value} {r : Result Next} (hr : r = .ok (.value v) w') (hb : Below w.heap.size w w') (h : S v w') : relUpon P S w r := by
  rw [hr]; exact ⟨hb, h⟩
/-- From a contract that says what value comes back. -/
theorem calls_fixed {P : Program} {f : FuncId} {args : Array Value} {w : World} {S : Value → World → Prop} {u : Value} (h : Calls P f args w fun e w' => e = .returned u ∧ Below w.heap.size w w') (hS : ∀ w', S u w') :
    Calls P f args w (fun e w'' => ∃ v, e = .returned v ∧ Below w.heap.size w w'' ∧ S v w'') := h.mono fun _ w' ⟨he, hb⟩ => ⟨u, he, hb, hS w'⟩
theorem calls_fixed0 {P : Program} {f : FuncId} {args : Array Value} {w : World} {S : Value → World → Prop} {u : Value} (h : Calls P f args w fun e w' => e = .returned u ∧ w = w') (hS : ∀ w', S u w') :
    Calls P f args w (fun e w'' => ∃ v, e = .returned v ∧ Below w.heap.size w w'' ∧ S v w'') := h.mono fun _ w' ⟨he, hb⟩ => ⟨u, he, hb ▸ Below.refl _ _, hS w'⟩
theorem calls_fixedN {P : Program} {f : FuncId} {args : Array Value} {w : World} {S : Value → World → Prop} {u : Value} (h : Calls P f args w fun e w' => e = .returned u ∧ ∃ k, w' = w.drewN k) (hS : ∀ w', S u w') :
    Calls P f args w (fun e w'' => ∃ v, e = .returned v ∧ Below w.heap.size w w'' ∧ S v w'') := h.mono fun _ w' ⟨he, k, hb⟩ => ⟨u, he, hb ▸ ⟨rfl, rfl, rfl, Nat.le_refl _, fun _ _ => rfl⟩, hS w'⟩

theorem exec_load_row {P : Program} {o : Oper} {a : Act} {w : World} (ty : TypeId) (x : Operand) (ho : o.op = .load ty x)
    (g : Nat) (hx : a.eval x = .pointer (some ⟨g, 0, none⟩)) (t : TypeId) (cs : Array Value) (fr : Nat × Nat) (d : TypeDesc) (hg : w.heap[g]? = some (.cells cs t fr))
    (hu : P.underlying ty = some d) (hd : (match d with | .struct _ | .array _ _ => true | _ => false) = true) (hi : (P.info? ty).map (·.size) = some cs.size) :
    (execOp a.eval o).run P w = .ok (.value (.agg cs)) w := by
  unfold execOp
  simp only [ho, hx, Instr.loadAt, Instr.sureAddr, Sem.run_bind, Sem.run_pure, Result.andThen_ok, run_loadVar_row w g t ty cs fr d hg hu hd hi]

/-- What is said of the slots, as a list. -/
def Fof : List (Tmp × (Value → World → Prop)) → Tmp → Value → World → Prop
  | [], _, _, _ => True
  | p :: L, t, v, w => if p.1 = t then p.2 v w else Fof L t v w
def Stable (S : Value → World → Prop) : Prop := ∀ v w w', S v w → Below w.heap.size w w' → S v w'
theorem Stable.fof : ∀ {L : List (Tmp × (Value → World → Prop))} (_ : ∀ p ∈ L, Stable p.2) (t : Tmp) (v : Value) (w w' : World), Fof L t v w → Below w.heap.size w w' → Fof L t v w'
  | [], _, _, _, _, _, _, _ => trivial
  | p :: L, h, t, v, w, w', hF, hb => by
    unfold Fof at hF ⊢
    split
    · rename_i he
      rw [if_pos he] at hF
      exact h p (by simp) v w w' hF hb
    · rename_i he
      rw [if_neg he] at hF
      exact Stable.fof (fun q hq => h q (by simp [hq])) t v w w' hF hb
theorem Stable.const (u : Value) : Stable (fun v _ => v = u) := fun _ _ _ h _ => h
end Go.Proofs.Ytabgmodllifgjaa
