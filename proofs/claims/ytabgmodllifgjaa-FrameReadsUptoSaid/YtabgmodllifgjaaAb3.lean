/- The second layer: regions, in the order of the text and in any order. No conditions. -/
import Derived.Test.YtabgmodllifgjaaAb2
import Derived.Orders
namespace Go.Ab
open Go.RowKit
set_option linter.unusedVariables false

def Exec (P : Program) (o : Oper) (a : Act) (w : World) (R : Value → World → Prop) : Prop :=
  match (execOp a.eval o).run P w with
  | .ok (.value v) w' => R v w'
  | .ok .skip w' => R undef w'
  | .ok (.enter f args) w' => Calls P f args w' fun e w'' => ∃ v, e = .returned v ∧ R v w''
  | _ => False
theorem Exec.wp {P : Program} {o : Oper} {a : Act} {w : World} {R : Value → World → Prop} {next : Act → World → Prop} {Q : Exit → Act → World → Prop} (h : Exec P o a w R) (hn : ∀ v w', R v w' → next (a.put o.dst v) w') : o.wp P a w next Q := by
  unfold Exec at h
  unfold Oper.wp
  generalize (execOp a.eval o).run P w = r at *
  cases r with
  | ok n w' =>
    cases n <;> simp only [Oper.upon] at h ⊢
    case value v => exact hn _ _ h
    case skip => exact hn _ _ h
    case enter f args => exact h.mono fun e w'' ⟨v, e1, hr⟩ => by subst e1; exact hn _ _ hr
  | halt x w' => exact h.elim

def evA (env : Nat → AV) : Operand → AV
  | .tmp t => env t
  | .const v => .r (.v v)
  | .global g => .r (.v (.pointer (some ⟨g, 0, none⟩)))
  | .func f => .r (.v (.func (.func f) #[] #[]))
theorem SimF.ev {C : Cx} {D : Nat → Prop} {env : Nat → AV} {H : Nat → Option Blk} {Z : Nat → Value} {a : Act} {w : World} (S : SimF C D env H Z a w) (x : Operand) : (evA env x).rep Z (Own C H Z) w (a.eval x) := by
  cases x with
  | tmp t => exact S.slots t
  | const v => simp only [evA, Act.eval, AV.rep, RV.rep]
  | global g => simp only [evA, Act.eval, AV.rep, RV.rep]
  | func f => simp only [evA, Act.eval, AV.rep, RV.rep]

def OpOk (P : Program) (o : Oper) (env : Nat → AV) (k : Nat) (sp : Sp) : Prop :=
  ∀ (a : Act) (w : World) (Z : Nat → Value) (M : Nat → Prop), (∀ x, M x → x < w.heap.size) → (∀ x ∈ o.op.operands.toList, (evA env x).rep Z M w (a.eval x)) →
    (∀ i b, (i, b) ∈ sp.rd → held Z M w i b ∧ ∀ x, blk (Z i) = some x → M x) →
    (∀ i j b c, (i, b) ∈ sp.rd → (j, c) ∈ sp.rd → i ≠ j → ∀ x, blk (Z i) = some x → blk (Z j) ≠ some x) → Exec P o a w (After k sp Z M w)

/-- Whether an operation is carried out, as far as its guard goes. -/
def Wanted (ops : Array Oper) (env : Nat → AV) (o : Oper) (b : Bool) : Prop :=
  (o.guard = none ∧ b = true) ∨ ∃ j want t x, o.guard = some (j, want) ∧ (ops[j]?).bind (·.dst) = some t ∧ env t = .r (.v (.bool x)) ∧ b = (x == want)
def skipSp : Sp := ⟨false, [], .r (.v undef), [], []⟩

/-- The words about one operation hold. -/
structure StepA (P : Program) (L : Ln) (N : Nat) (ops : Array Oper) (o : Oper) (env : Nat → AV) (H : Nat → Option Blk) (k : Nat) (sp : Sp) : Prop where
  dst : ∀ x, o.dst = some x → x < N
  want : Wanted ops env o sp.run
  ok : sp.run = true → OpOk P o env k sp
  skip : sp.run = false → sp = skipSp
  sp : ∀ D : Nat → Prop, (∀ t, ∀ i ∈ (env t).ids, D i) → (∀ i b, H i = some b → D i ∧ ∀ j ∈ b.ids, D j) → (∀ i, D i → i < k ∨ k + sp.frs.length ≤ i) → SpOk L D H k sp

theorem wanted_of {ops : Array Oper} {env : Nat → AV} {o : Oper} {b : Bool} {C : Cx} {D : Nat → Prop} {H : Nat → Option Blk} {Z : Nat → Value} {a : Act} {w : World} (S : SimF C D env H Z a w) (h : Wanted ops env o b) : Region.wanted o (yielded ops a.tmps) = b := by
  unfold Region.wanted
  rcases h with ⟨hg, rfl⟩ | ⟨j, want, t, x, hg, ht, he, rfl⟩
  · rw [hg]
  · rw [hg]
    have hr := S.slots t
    rw [he, AV.rep, RV.rep] at hr
    have hy : yielded ops a.tmps j = some x := by
      unfold yielded
      rw [ht]
      simp only [Option.bind_some]
      have : a.tmps[t]? = some (.bool x) := by
        have h2 : (a.tmps[t]?).getD undef = .bool x := by simpa using hr
        cases h3 : a.tmps[t]? with
        | none => rw [h3] at h2; simp [undef] at h2
        | some y => rw [h3] at h2; simpa using h2
      rw [this]
    simp only [hy]
    cases x <;> cases want <;> rfl

/-- A step of a run by the words about an operation. -/
theorem SimF.oper {P : Program} {N : Nat} {ops : Array Oper} {o : Oper} {C : Cx} {D : Nat → Prop} {env : Nat → AV} {H : Nat → Option Blk} {Z : Nat → Value} {a : Act} {w : World} {k : Nat} {sp : Sp} {next : Act → World → Prop} {Q : Exit → Act → World → Prop}
    (S : SimF C D env H Z a w) (hP : C.P = P) (hN : C.N = N) (hdst : ∀ x, o.dst = some x → x < N) (hw : Wanted ops env o sp.run) (hok : sp.run = true → OpOk P o env k sp) (hskip : sp.run = false → sp = skipSp) (hsp : SpOk C.ln D H k sp)
    (hn : ∀ Z' a' w', SimF C (fun i => D i ∨ (k ≤ i ∧ i < k + sp.frs.length)) (updE o.dst sp.out env) (updH k sp H) Z' a' w' → next a' w') :
    if Region.wanted o (yielded ops a.tmps) then o.wp P a w next Q ∨ (o.asks P a w ∧ LetsOut Q) else next (a.put o.dst undef) w := by
  rw [wanted_of S hw]
  cases hr : sp.run with
  | true =>
    rw [if_pos rfl]
    refine .inl ((hok hr a w Z (Own C H Z) S.m_lt (fun x _ => S.ev x) (fun i b hb => ⟨(S.holds i b (hsp.rd i b hb)).1, fun x hx => .inr ⟨i, b, hsp.rd i b hb, hx⟩⟩) (fun i j b c hb hc hij x hx => S.dist i j b c (hsp.rd i b hb) (hsp.rd j c hc) hij x hx)).wp fun v w' hA => ?_)
    obtain ⟨Z', S'⟩ := S.step hsp (d := o.dst) (fun x hx => hN ▸ hdst x hx) hA
    exact hn _ _ _ S'
  | false =>
    rw [if_neg (by simp)]
    have e := hskip hr
    obtain ⟨Z', S'⟩ := S.step hsp (d := o.dst) (v := undef) (w' := w) (fun x hx => hN ▸ hdst x hx) ⟨Z, by
      subst e
      exact ⟨fun _ _ => rfl, by simp only [skipSp, AV.rep, RV.rep], fun i b h => by simp [skipSp] at h, fun j b h => by simp [skipSp] at h, fun j j' x h => by simp [skipSp] at h, fun j x h => by simp [skipSp] at h, Upto.refl _⟩⟩
    exact hn _ _ _ S'

/-! ## States as lists -/
structure St where
  env : List (Nat × AV)
  H : List (Nat × Option Blk)
  nx : Nat
def get : List (Nat × AV) → Nat → AV
  | [], _ => .na
  | (k, x) :: l, t => bif Nat.beq k t then x else get l t
def getH : List (Nat × Option Blk) → Nat → Option Blk
  | [], _ => none
  | (k, x) :: l, t => bif Nat.beq k t then x else getH l t
def St.envF (S : St) : Nat → AV := get S.env
def St.HF (S : St) : Nat → Option Blk := getH S.H
def frsL : Nat → List Blk → List (Nat × Option Blk)
  | _, [] => []
  | k, b :: bs => (k, some b) :: frsL (k + 1) bs
def St.app (S : St) (d : Option Nat) (sp : Sp) : St :=
  { env := match d with | some t => (t, sp.out) :: S.env | none => S.env, H := frsL S.nx sp.frs ++ (sp.up ++ S.H), nx := S.nx + sp.frs.length }

theorem app_env (S : St) (d : Option Nat) (sp : Sp) : (S.app d sp).envF = updE d sp.out S.envF := by
  funext t
  cases d with
  | none => simp [St.app, St.envF, updE]
  | some k =>
    by_cases h : k = t
    · subst h; simp [St.app, St.envF, updE, get]
    · have : Nat.beq k t = false := by cases hb : Nat.beq k t with
        | false => rfl
        | true => exact absurd (Nat.eq_of_beq_eq_true hb) h
      simp [St.app, St.envF, updE, get, this, h]
theorem getH_append (l m : List (Nat × Option Blk)) (i : Nat) : getH (l ++ m) i = match l.lookup i with | some o => o | none => getH m i := by
  induction l with
  | nil => rfl
  | cons p l ih =>
    obtain ⟨k, x⟩ := p
    rw [List.cons_append, getH, List.lookup_cons]
    by_cases h : k = i
    · subst h; simp
    · have h1 : Nat.beq k i = false := by cases hb : Nat.beq k i with
        | false => rfl
        | true => exact absurd (Nat.eq_of_beq_eq_true hb) h
      have h2 : (i == k) = false := by simpa using fun e => h e.symm
      rw [h1, h2]
      exact ih
theorem frsL_lookup (bs : List Blk) : ∀ (k i : Nat), (frsL k bs).lookup i = if k ≤ i ∧ i < k + bs.length then some (bs[i - k]?) else none := by
  induction bs with
  | nil => intro k i; rw [if_neg (by simp)]; rfl
  | cons b bs ih =>
    intro k i
    rw [frsL, List.lookup_cons]
    by_cases h : i = k
    · subst h; simp
    · have h2 : (i == k) = false := by simpa using h
      rw [h2]
      simp only []
      rw [ih (k + 1) i]
      by_cases hi : k + 1 ≤ i ∧ i < k + 1 + bs.length
      · rw [if_pos hi, if_pos (by simp; omega)]
        rw [show i - k = (i - (k + 1)) + 1 by omega, List.getElem?_cons_succ]
      · rw [if_neg hi, if_neg (by simp; omega)]
theorem app_H (S : St) (d : Option Nat) (sp : Sp) : (S.app d sp).HF = updH S.nx sp S.HF := by
  funext i
  unfold St.HF St.app updH
  simp only
  rw [getH_append, frsL_lookup, getH_append]
  split
  · rename_i o ho
    split at ho
    · rename_i hi
      rw [if_pos hi]
      injection ho with ho
      exact ho.symm
    · cases ho
  · rename_i ho
    split at ho
    · cases ho
    · rename_i hi
      rw [if_neg hi]
      rfl

def Sim (C : Cx) (S : St) (a : Act) (w : World) : Prop := ∃ Z, SimF C (fun i => i < S.nx) S.envF S.HF Z a w

theorem SimF.monoD {C : Cx} {D D' : Nat → Prop} {env : Nat → AV} {H : Nat → Option Blk} {Z : Nat → Value} {a : Act} {w : World} (S : SimF C D env H Z a w) (h : ∀ i, D i → D' i) : SimF C D' env H Z a w :=
  ⟨S.size, S.defers, S.frame, S.m0, S.slots, fun t i hi => h i (S.ids t i hi), fun i b hb => ⟨(S.holds i b hb).1, h i (S.holds i b hb).2.1, fun j hj => h j ((S.holds i b hb).2.2 j hj)⟩, S.dist, S.fresh, S.lm, fun i hi => ⟨(S.zl i hi).1, h i (S.zl i hi).2⟩⟩

/-- THE WALK in the order of the text. 'tr' gathers what was said of the operations, the last one first. -/
def wpA (P : Program) (L : Ln) (N : Nat) (ops : Array Oper) (chk : List (Nat × Sp) → Bool) (Q : St → Prop) : List Oper → St → List (Nat × Sp) → Prop
  | [], S, tr => chk tr.reverse = true ∧ Q S
  | o :: l, S, tr => ∃ sp, StepA P L N ops o S.envF S.HF S.nx sp ∧ wpA P L N ops chk Q l (S.app o.dst sp) ((S.nx, sp) :: tr)

/-- A region whose order is that of the text. -/
theorem wpList_of_wpA {P : Program} {ops : Array Oper} {chk : List (Nat × Sp) → Bool} {Q : St → Prop} {Q' : Exit → Act → World → Prop} {C : Cx} (hP : C.P = P) (hQ : ∀ S a w, Q S → Sim C S a w → Q' .normal a w) :
    ∀ (l : List Oper) (S : St) (tr : List (Nat × Sp)) (a : Act) (w : World), wpA P C.ln C.N ops chk Q l S tr → Sim C S a w → wpList P ops Q' l a w
  | [], S, tr, a, w, h, hs => hQ S a w h.2 hs
  | o :: l, S, tr, a, w, ⟨sp, h1, h2⟩, ⟨Z, hs⟩ => by
    unfold wpList
    have hsp := h1.sp (fun i => i < S.nx) hs.ids (fun i b hb => ⟨(hs.holds i b hb).2.1, (hs.holds i b hb).2.2⟩) (fun i hi => .inl hi)
    refine hs.oper (k := S.nx) (sp := sp) hP rfl h1.dst h1.want h1.ok h1.skip hsp fun Z' a' w' hs' => ?_
    refine wpList_of_wpA hP hQ l (S.app o.dst sp) _ a' w' h2 ⟨Z', ?_⟩
    rw [app_env, app_H]
    exact hs'.monoD fun i hi => by
      show i < S.nx + sp.frs.length
      have : ∀ i, i < S.nx ∨ (S.nx ≤ i ∧ i < S.nx + sp.frs.length) → i < S.nx + sp.frs.length := by intro i h; omega
      exact this i hi
end Go.Ab
