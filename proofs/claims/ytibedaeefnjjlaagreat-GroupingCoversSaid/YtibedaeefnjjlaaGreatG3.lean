/- Texts of the second layer in one: Ab3 Ab4. -/
import Derived.Test.YtibedaeefnjjlaaGreatG2
import Derived.Orders
/- The second layer: regions, in the order of the text and in any order. No conditions. -/
namespace Go.Ab
open Go.RowKit
set_option linter.unusedVariables false

def Exec (P : Program) (o : Oper) (a : Act) (w : World) (R : Value → World → Prop) : Prop :=
  match (execOp a.eval o).run P w with
  | .ok (.value v) w' => R v w'
  | .ok .skip w' => R undef w'
  | .ok (.enter f args) w' => Calls P f args w' fun e w'' => ∃ v, e = .returned v ∧ R v w''
  | _ => False
theorem Exec.wp {P : Program} {o : Oper} {a : Act} {w : World} {R : Value → World → Prop} {next : Act → World → Prop} {Q : Exit → Act → World → Prop} (h : Exec P o a w R) (hn : ∀ v w', R v w' → next (a.put o.dst v) w') : o.wp P a w next Q := by
  unfold Exec at h
  unfold Oper.wp
  generalize (execOp a.eval o).run P w = r at *
  cases r with
  | ok n w' =>
    cases n <;> simp only [Oper.upon] at h ⊢
    case value v => exact hn _ _ h
    case skip => exact hn _ _ h
    case enter f args => exact h.mono fun e w'' ⟨v, e1, hr⟩ => by subst e1; exact hn _ _ hr
  | halt x w' => exact h.elim

def evA (env : Nat → AV) : Operand → AV
  | .tmp t => env t
  | .const v => .r (.v v)
  | .global g => .r (.v (.pointer (some ⟨g, 0, none⟩)))
  | .func f => .r (.v (.func (.func f) #[] #[]))
theorem SimF.ev {C : Cx} {D : Nat → Prop} {env : Nat → AV} {H : Nat → Option Blk} {Z : Nat → Value} {a : Act} {w : World} (S : SimF C D env H Z a w) (x : Operand) : (evA env x).rep Z (Own C H Z) w (a.eval x) := by
  cases x with
  | tmp t => exact S.slots t
  | const v => simp only [evA, Act.eval, AV.rep, RV.rep]
  | global g => simp only [evA, Act.eval, AV.rep, RV.rep]
  | func f => simp only [evA, Act.eval, AV.rep, RV.rep]

def OpOk (P : Program) (o : Oper) (env : Nat → AV) (k : Nat) (sp : Sp) : Prop :=
  ∀ (a : Act) (w : World) (Z : Nat → Value) (M : Nat → Prop), (∀ x, M x → x < w.heap.size) → (∀ x ∈ o.op.operands.toList, (evA env x).rep Z M w (a.eval x)) →
    (∀ i b, (i, b) ∈ sp.rd → held Z M w i b ∧ ∀ x, blk (Z i) = some x → M x) →
    (∀ i j b c, (i, b) ∈ sp.rd → (j, c) ∈ sp.rd → i ≠ j → ∀ x, blk (Z i) = some x → blk (Z j) ≠ some x) → Exec P o a w (After k sp Z M w)

/-- Whether an operation is carried out, as far as its guard goes. -/
def Wanted (ops : Array Oper) (env : Nat → AV) (o : Oper) (b : Bool) : Prop :=
  (o.guard = none ∧ b = true) ∨ (∃ j want t x, o.guard = some (j, want) ∧ (ops[j]?).bind (·.dst) = some t ∧ env t = .r (.v (.bool x)) ∧ b = (x == want)) ∨ ∃ j want t, o.guard = some (j, want) ∧ (ops[j]?).bind (·.dst) = some t ∧ env t = .r (.v undef) ∧ b = false
def skipSp : Sp := ⟨false, [], .r (.v undef), [], []⟩

/-- The words about one operation hold. -/
structure StepA (P : Program) (L : Ln) (N : Nat) (ops : Array Oper) (o : Oper) (env : Nat → AV) (H : Nat → Option Blk) (k : Nat) (sp : Sp) : Prop where
  dst : ∀ x, o.dst = some x → x < N
  want : Wanted ops env o sp.run
  ok : sp.run = true → OpOk P o env k sp
  skip : sp.run = false → sp = skipSp
  sp : ∀ D : Nat → Prop, (∀ t, ∀ i ∈ (env t).ids, D i) → (∀ i b, H i = some b → D i ∧ ∀ j ∈ b.ids, D j) → (∀ i, D i → i < k ∨ k + sp.frs.length ≤ i) → SpOk L D H k sp

theorem wanted_of {ops : Array Oper} {env : Nat → AV} {o : Oper} {b : Bool} {C : Cx} {D : Nat → Prop} {H : Nat → Option Blk} {Z : Nat → Value} {a : Act} {w : World} (S : SimF C D env H Z a w) (h : Wanted ops env o b) : Region.wanted o (yielded ops a.tmps) = b := by
  unfold Region.wanted
  rcases h with ⟨hg, rfl⟩ | ⟨j, want, t, x, hg, ht, he, rfl⟩ | ⟨j, want, t, hg, ht, he, rfl⟩
  · rw [hg]
  · rw [hg]
    have hr := S.slots t
    rw [he, AV.rep, RV.rep] at hr
    have hy : yielded ops a.tmps j = some x := by
      unfold yielded
      rw [ht]
      simp only [Option.bind_some]
      have : a.tmps[t]? = some (.bool x) := by
        have h2 : (a.tmps[t]?).getD undef = .bool x := by simpa using hr
        cases h3 : a.tmps[t]? with
        | none => rw [h3] at h2; simp [undef] at h2
        | some y => rw [h3] at h2; simpa using h2
      rw [this]
    simp only [hy]
    cases x <;> cases want <;> rfl
  · rw [hg]
    have hr := S.slots t
    rw [he, AV.rep, RV.rep] at hr
    have hy : yielded ops a.tmps j = none := by
      unfold yielded
      rw [ht]
      simp only [Option.bind_some]
      have h2 : (a.tmps[t]?).getD undef = undef := by simpa using hr
      cases h3 : a.tmps[t]? with
      | none => rfl
      | some y => rw [h3] at h2; have : y = undef := by simpa using h2
                  subst this; rfl
    simp only [hy]
    cases want <;> rfl

/-- A step of a run by the words about an operation. -/
theorem SimF.oper {P : Program} {N : Nat} {ops : Array Oper} {o : Oper} {C : Cx} {D : Nat → Prop} {env : Nat → AV} {H : Nat → Option Blk} {Z : Nat → Value} {a : Act} {w : World} {k : Nat} {sp : Sp} {next : Act → World → Prop} {Q : Exit → Act → World → Prop}
    (S : SimF C D env H Z a w) (hP : C.P = P) (hN : C.N = N) (hdst : ∀ x, o.dst = some x → x < N) (hw : Wanted ops env o sp.run) (hok : sp.run = true → OpOk P o env k sp) (hskip : sp.run = false → sp = skipSp) (hsp : SpOk C.ln D H k sp)
    (hn : ∀ Z' a' w', SimF C (fun i => D i ∨ (k ≤ i ∧ i < k + sp.frs.length)) (updE o.dst sp.out env) (updH k sp H) Z' a' w' → next a' w') :
    if Region.wanted o (yielded ops a.tmps) then o.wp P a w next Q ∨ (o.asks P a w ∧ LetsOut Q) else next (a.put o.dst undef) w := by
  rw [wanted_of S hw]
  cases hr : sp.run with
  | true =>
    rw [if_pos rfl]
    refine .inl ((hok hr a w Z (Own C H Z) S.m_lt (fun x _ => S.ev x) (fun i b hb => ⟨(S.holds i b (hsp.rd i b hb)).1, fun x hx => .inr ⟨i, b, hsp.rd i b hb, hx⟩⟩) (fun i j b c hb hc hij x hx => S.dist i j b c (hsp.rd i b hb) (hsp.rd j c hc) hij x hx)).wp fun v w' hA => ?_)
    obtain ⟨Z', S'⟩ := S.step hsp (d := o.dst) (fun x hx => hN ▸ hdst x hx) hA
    exact hn _ _ _ S'
  | false =>
    rw [if_neg (by simp)]
    have e := hskip hr
    obtain ⟨Z', S'⟩ := S.step hsp (d := o.dst) (v := undef) (w' := w) (fun x hx => hN ▸ hdst x hx) ⟨Z, by
      subst e
      exact ⟨fun _ _ => rfl, by simp only [skipSp, AV.rep, RV.rep], fun i b h => by simp [skipSp] at h, fun j b h => by simp [skipSp] at h, fun j j' x h => by simp [skipSp] at h, fun j x h => by simp [skipSp] at h, Upto.refl _⟩⟩
    exact hn _ _ _ S'

/-! ## States as lists -/
structure St where
  env : List (Nat × AV)
  H : List (Nat × Option Blk)
  nx : Nat
def get : List (Nat × AV) → Nat → AV
  | [], _ => .na
  | (k, x) :: l, t => bif Nat.beq k t then x else get l t
def getH : List (Nat × Option Blk) → Nat → Option Blk
  | [], _ => none
  | (k, x) :: l, t => bif Nat.beq k t then x else getH l t
def St.envF (S : St) : Nat → AV := get S.env
def St.HF (S : St) : Nat → Option Blk := getH S.H
def frsL : Nat → List Blk → List (Nat × Option Blk)
  | _, [] => []
  | k, b :: bs => (k, some b) :: frsL (k + 1) bs
def St.app (S : St) (d : Option Nat) (sp : Sp) : St :=
  { env := match d with | some t => (t, sp.out) :: S.env | none => S.env, H := frsL S.nx sp.frs ++ (sp.up ++ S.H), nx := S.nx + sp.frs.length }

theorem app_env (S : St) (d : Option Nat) (sp : Sp) : (S.app d sp).envF = updE d sp.out S.envF := by
  funext t
  cases d with
  | none => simp [St.app, St.envF, updE]
  | some k =>
    by_cases h : k = t
    · subst h; simp [St.app, St.envF, updE, get]
    · have : Nat.beq k t = false := by cases hb : Nat.beq k t with
        | false => rfl
        | true => exact absurd (Nat.eq_of_beq_eq_true hb) h
      simp [St.app, St.envF, updE, get, this, h]
theorem getH_append (l m : List (Nat × Option Blk)) (i : Nat) : getH (l ++ m) i = match l.lookup i with | some o => o | none => getH m i := by
  induction l with
  | nil => rfl
  | cons p l ih =>
    obtain ⟨k, x⟩ := p
    rw [List.cons_append, getH, List.lookup_cons]
    by_cases h : k = i
    · subst h; simp
    · have h1 : Nat.beq k i = false := by cases hb : Nat.beq k i with
        | false => rfl
        | true => exact absurd (Nat.eq_of_beq_eq_true hb) h
      have h2 : (i == k) = false := by simpa using fun e => h e.symm
      rw [h1, h2]
      exact ih
theorem frsL_lookup (bs : List Blk) : ∀ (k i : Nat), (frsL k bs).lookup i = if k ≤ i ∧ i < k + bs.length then some (bs[i - k]?) else none := by
  induction bs with
  | nil => intro k i; rw [if_neg (by simp)]; rfl
  | cons b bs ih =>
    intro k i
    rw [frsL, List.lookup_cons]
    by_cases h : i = k
    · subst h; simp
    · have h2 : (i == k) = false := by simpa using h
      rw [h2]
      simp only []
      rw [ih (k + 1) i]
      by_cases hi : k + 1 ≤ i ∧ i < k + 1 + bs.length
      · rw [if_pos hi, if_pos (by simp; omega)]
        rw [show i - k = (i - (k + 1)) + 1 by omega, List.getElem?_cons_succ]
      · rw [if_neg hi, if_neg (by simp; omega)]
theorem app_H (S : St) (d : Option Nat) (sp : Sp) : (S.app d sp).HF = updH S.nx sp S.HF := by
  funext i
  unfold St.HF St.app updH
  simp only
  rw [getH_append, frsL_lookup, getH_append]
  split
  · rename_i o ho
    split at ho
    · rename_i hi
      rw [if_pos hi]
      injection ho with ho
      exact ho.symm
    · cases ho
  · rename_i ho
    split at ho
    · cases ho
    · rename_i hi
      exact (if_neg hi).symm

def Sim (C : Cx) (S : St) (a : Act) (w : World) : Prop := ∃ Z, SimF C (fun i => i < S.nx) S.envF S.HF Z a w

theorem SimF.monoD {C : Cx} {D D' : Nat → Prop} {env : Nat → AV} {H : Nat → Option Blk} {Z : Nat → Value} {a : Act} {w : World} (S : SimF C D env H Z a w) (h : ∀ i, D i → D' i) : SimF C D' env H Z a w :=
  ⟨S.size, S.defers, S.frame, S.m0, S.slots, fun t i hi => h i (S.ids t i hi), fun i b hb => ⟨(S.holds i b hb).1, h i (S.holds i b hb).2.1, fun j hj => h j ((S.holds i b hb).2.2 j hj)⟩, S.dist, S.fresh, S.lm, fun i hi => ⟨(S.zl i hi).1, h i (S.zl i hi).2⟩⟩

/-- THE WALK in the order of the text. 'tr' gathers what was said of the operations, the last one first. -/
def wpA (P : Program) (L : Ln) (N : Nat) (ops : Array Oper) (chk : List (Nat × Sp) → Bool) (Q : St → Prop) : List Oper → St → List (Nat × Sp) → Prop
  | [], S, tr => chk tr.reverse = true ∧ Q S
  | o :: l, S, tr => ∃ sp, StepA P L N ops o S.envF S.HF S.nx sp ∧ wpA P L N ops chk Q l (S.app o.dst sp) ((S.nx, sp) :: tr)

/-- A region whose order is that of the text. -/
theorem wpList_of_wpA {P : Program} {ops : Array Oper} {chk : List (Nat × Sp) → Bool} {Q : St → Prop} {Q' : Exit → Act → World → Prop} {C : Cx} (hP : C.P = P) (hQ : ∀ S a w, Q S → Sim C S a w → Q' .normal a w) :
    ∀ (l : List Oper) (S : St) (tr : List (Nat × Sp)) (a : Act) (w : World), wpA P C.ln C.N ops chk Q l S tr → Sim C S a w → wpList P ops Q' l a w
  | [], S, tr, a, w, h, hs => hQ S a w h.2 hs
  | o :: l, S, tr, a, w, ⟨sp, h1, h2⟩, ⟨Z, hs⟩ => by
    unfold wpList
    have hsp := h1.sp (fun i => i < S.nx) hs.ids (fun i b hb => ⟨(hs.holds i b hb).2.1, (hs.holds i b hb).2.2⟩) (fun i hi => .inl hi)
    refine hs.oper (k := S.nx) (sp := sp) hP rfl h1.dst h1.want h1.ok h1.skip hsp fun Z' a' w' hs' => ?_
    refine wpList_of_wpA hP hQ l (S.app o.dst sp) _ a' w' h2 ⟨Z', ?_⟩
    rw [app_env, app_H]
    exact hs'.monoD fun i hi => by
      show i < S.nx + sp.frs.length
      have : ∀ i, i < S.nx ∨ (S.nx ≤ i ∧ i < S.nx + sp.frs.length) → i < S.nx + sp.frs.length := by intro i h; omega
      exact this i hi
end Go.Ab

/- The second layer: a region in any order that its edges allow comes to what it comes to in the order of the text. No conditions. -/
namespace Go.Ab
open Go.RowKit
set_option linter.unusedVariables false

theorem ble_t {a b : Nat} : Nat.ble a b = true ↔ a ≤ b := by rw [Nat.ble_eq]
theorem blt_t {a b : Nat} : Nat.blt a b = true ↔ a < b := by rw [Nat.blt_eq]
def spAt (tr : List (Nat × Sp)) (q : Nat) : Sp := match tr[q]? with | some p => p.2 | none => skipSp
def kAt (tr : List (Nat × Sp)) (q : Nat) : Nat := match tr[q]? with | some p => p.1 | none => 0
def dstAt (ops : Array Oper) (q : Nat) : Option Nat := match ops[q]? with | some o => o.dst | none => none

/-- What the slots (the own blocks) hold when those of the first q operations have been carried out that f tells. -/
def envAt (ops : Array Oper) (tr : List (Nat × Sp)) (env0 : Nat → AV) (f : Nat → Bool) : Nat → Nat → AV
  | 0 => env0
  | q + 1 => bif f q then updE (dstAt ops q) (spAt tr q).out (envAt ops tr env0 f q) else envAt ops tr env0 f q
def hAt (tr : List (Nat × Sp)) (h0 : Nat → Option Blk) (f : Nat → Bool) : Nat → Nat → Option Blk
  | 0 => h0
  | q + 1 => bif f q then updH (kAt tr q) (spAt tr q) (hAt tr h0 f q) else hAt tr h0 f q
def all_ : Nat → Bool := fun _ => true

def inR (tr : List (Nat × Sp)) (q i : Nat) : Bool := Nat.ble (kAt tr q) i && Nat.blt i (kAt tr q + (spAt tr q).frs.length)
/-- Whether an operation turns (or makes) what lies under i. -/
def tou (tr : List (Nat × Sp)) (q i : Nat) : Bool := inR tr q i || (spAt tr q).up.any fun p => Nat.beq p.1 i

section
variable {ops : Array Oper} {tr : List (Nat × Sp)} {env0 : Nat → AV} {h0 : Nat → Option Blk}
theorem envAt_other {f : Nat → Bool} {t : Nat} (q : Nat) : ∀ m, q ≤ m → (∀ j, q ≤ j → j < m → dstAt ops j = some t → f j = false) → envAt ops tr env0 f m t = envAt ops tr env0 f q t
  | 0, hm, _ => by
    have : q = 0 := by omega
    subst this; rfl
  | m + 1, hm, h => by
    rcases Nat.lt_or_ge m q with hq | hq
    · have : q = m + 1 := by omega
      subst this; rfl
    · have ih := envAt_other q m hq (fun j h1 h2 => h j h1 (by omega))
      rw [envAt]
      cases hf : f m with
      | false => simpa using ih
      | true =>
        have hne : dstAt ops m ≠ some t := fun e => by have := h m hq (by omega) e; rw [hf] at this; cases this
        simp only [cond_true, updE, if_neg hne]
        exact ih
theorem envAt_same {f g : Nat → Bool} {t : Nat} : ∀ q, (∀ j, j < q → dstAt ops j = some t → f j = g j) → envAt ops tr env0 f q t = envAt ops tr env0 g q t
  | 0, _ => rfl
  | q + 1, h => by
    have ih := envAt_same q (fun j hj => h j (by omega))
    rw [envAt, envAt]
    by_cases hd : dstAt ops q = some t
    · rw [h q (by omega) hd]
      cases g q with
      | false => simpa using ih
      | true => simp [updE, hd]
    · have e : ∀ b : Bool, ∀ x : Nat → AV, (bif b then updE (dstAt ops q) (spAt tr q).out x else x) t = x t := fun b x => by cases b <;> simp [updE, hd]
      rw [e, e, ih]
theorem updH_other {k : Nat} {sp : Sp} {H : Nat → Option Blk} {i : Nat} (h1 : ¬ (k ≤ i ∧ i < k + sp.frs.length)) (h2 : sp.up.any (fun p => Nat.beq p.1 i) = false) : updH k sp H i = H i := by
  unfold updH
  rw [if_neg h1]
  split
  · rename_i o ho
    have := lookup_mem ho
    rw [List.any_eq_false] at h2
    exact absurd (by simp) (h2 _ this)
  · rfl
theorem updH_same {k : Nat} {sp : Sp} {H H' : Nat → Option Blk} {i : Nat} (h : ¬ (k ≤ i ∧ i < k + sp.frs.length) → sp.up.lookup i = none → H i = H' i) : updH k sp H i = updH k sp H' i := by
  unfold updH
  split
  · rfl
  · rename_i h1
    split
    · rfl
    · rename_i h2; exact h h1 h2
theorem not_tou {q i : Nat} (h : tou tr q i = false) : ¬ (kAt tr q ≤ i ∧ i < kAt tr q + (spAt tr q).frs.length) ∧ (spAt tr q).up.any (fun p => Nat.beq p.1 i) = false := by
  unfold tou inR at h
  simp only [Bool.or_eq_false_iff, Bool.and_eq_false_iff] at h
  refine ⟨fun ⟨h1, h2⟩ => ?_, h.2⟩
  rcases h.1 with h3 | h3
  · have := ble_t.2 h1; rw [this] at h3; cases h3
  · have := blt_t.2 h2; rw [this] at h3; cases h3
theorem hAt_other {f : Nat → Bool} {i : Nat} (q : Nat) : ∀ m, q ≤ m → (∀ j, q ≤ j → j < m → tou tr j i = true → f j = false) → hAt tr h0 f m i = hAt tr h0 f q i
  | 0, hm, _ => by
    have : q = 0 := by omega
    subst this; rfl
  | m + 1, hm, h => by
    rcases Nat.lt_or_ge m q with hq | hq
    · have : q = m + 1 := by omega
      subst this; rfl
    · have ih := hAt_other q m hq (fun j h1 h2 => h j h1 (by omega))
      rw [hAt]
      cases hf : f m with
      | false => simpa using ih
      | true =>
        have hne : tou tr m i = false := by
          cases ht : tou tr m i with
          | false => rfl
          | true => have := h m hq (by omega) ht; rw [hf] at this; cases this
        obtain ⟨n1, n2⟩ := not_tou hne
        simp only [cond_true]
        rw [updH_other n1 n2]
        exact ih
theorem hAt_same {f g : Nat → Bool} {i : Nat} : ∀ q, (∀ j, j < q → tou tr j i = true → f j = g j) → hAt tr h0 f q i = hAt tr h0 g q i
  | 0, _ => rfl
  | q + 1, h => by
    have ih := hAt_same q (fun j hj => h j (by omega))
    rw [hAt, hAt]
    cases ht : tou tr q i with
    | true =>
      rw [h q (by omega) ht]
      cases g q with
      | false => simpa using ih
      | true =>
        simp only [cond_true]
        exact updH_same fun _ _ => ih
    | false =>
      obtain ⟨n1, n2⟩ := not_tou ht
      have e : ∀ b : Bool, ∀ x : Nat → Option Blk, (bif b then updH (kAt tr q) (spAt tr q) x else x) i = x i := fun b x => by
        cases b
        · rfl
        · simp only [cond_true]; exact updH_other n1 n2
      rw [e, e, ih]

/-- One more operation carried out. -/
theorem envAt_ins {f f' : Nat → Bool} {q n : Nat} (hq : q < n) (hf : f q = false) (hf' : f' q = true) (hs : ∀ j, j ≠ q → f' j = f j) (ha : ∀ j, q < j → j < n → f j = true → ∀ t, dstAt ops j = some t → dstAt ops q ≠ some t) :
    envAt ops tr env0 f' n = updE (dstAt ops q) (spAt tr q).out (envAt ops tr env0 f n) := by
  funext t
  have h1 : envAt ops tr env0 f' (q + 1) = updE (dstAt ops q) (spAt tr q).out (envAt ops tr env0 f' q) := by rw [envAt, hf']; rfl
  have h2 : envAt ops tr env0 f (q + 1) = envAt ops tr env0 f q := by rw [envAt, hf]; rfl
  have h3 : envAt ops tr env0 f' q = envAt ops tr env0 f q := by
    funext t; exact envAt_same q fun j hj _ => hs j (by omega)
  by_cases hd : dstAt ops q = some t
  · rw [envAt_other (q + 1) n (by omega) (fun j h4 h5 h6 => by
      cases hj : f' j with
      | false => rfl
      | true => exact absurd hd (ha j (by omega) h5 (by rw [← hs j (by omega)]; exact hj) t h6)), h1]
    simp [updE, hd]
  · have e : ∀ m, q + 1 ≤ m → envAt ops tr env0 f' m t = envAt ops tr env0 f m t := by
      intro m hm
      exact envAt_same m fun j _ hj => hs j (fun e => hd (e ▸ hj))
    rw [e n (by omega)]
    simp [updE, hd]
theorem hAt_ins {f f' : Nat → Bool} {q n : Nat} (hq : q < n) (hf : f q = false) (hf' : f' q = true) (hs : ∀ j, j ≠ q → f' j = f j) (ha : ∀ j, q < j → j < n → f j = true → ∀ i, tou tr j i = true → tou tr q i = false) :
    hAt tr h0 f' n = updH (kAt tr q) (spAt tr q) (hAt tr h0 f n) := by
  funext i
  have h1 : hAt tr h0 f' (q + 1) = updH (kAt tr q) (spAt tr q) (hAt tr h0 f' q) := by rw [hAt, hf']; rfl
  have h2 : hAt tr h0 f (q + 1) = hAt tr h0 f q := by rw [hAt, hf]; rfl
  have h3 : hAt tr h0 f' q = hAt tr h0 f q := by
    funext t; exact hAt_same q fun j hj _ => hs j (by omega)
  cases ht : tou tr q i with
  | true =>
    have hl : ∀ (g : Nat → Bool), (∀ j, j ≠ q → g j = f j) → hAt tr h0 g n i = hAt tr h0 g (q + 1) i := fun g hg => hAt_other (q + 1) n (by omega) (fun j h4 h5 h6 => by
      cases hj : g j with
      | false => rfl
      | true =>
        have := ha j (by omega) h5 (by rw [← hg j (by omega)]; exact hj) i h6
        rw [ht] at this; cases this)
    rw [hl f' hs, h1, h3]
    refine updH_same fun _ _ => ?_
    rw [hl f (fun _ _ => rfl), h2]
  | false =>
    obtain ⟨n1, n2⟩ := not_tou ht
    rw [updH_other n1 n2]
    exact hAt_same n fun j _ hj => hs j (fun e => by rw [e, ht] at hj; cases hj)
end

/-! ## The check -/
def bit (B : Array Nat) (j i : Nat) : Bool := (B.getD j 0).testBit i
def idsOf (sp : Sp) : List Nat := sp.out.ids ++ (sp.frs.flatMap Blk.ids ++ sp.up.flatMap fun p => match p.2 with | some b => b.ids | none => [])
def conf (ops : Array Oper) (tr : List (Nat × Sp)) (oi oj : Oper) (i j : Nat) : Bool :=
  (match oi.dst with | some t => (oj.looksAt ops).contains t || oj.dst == some t | none => false) ||
  (match oj.dst with | some t => (oi.looksAt ops).contains t | none => false) ||
  ((spAt tr j).rd.any fun p => tou tr i p.1) || ((spAt tr i).rd.any fun p => tou tr j p.1) ||
  ((spAt tr j).up.any fun p => tou tr i p.1)
def chkPair (ops : Array Oper) (B : Array Nat) (tr : List (Nat × Sp)) (oj : Oper) (j i : Nat) : Bool :=
  Nat.ble (kAt tr i + (spAt tr i).frs.length) (kAt tr j) &&
  (!(match ops[i]? with | some oi => conf ops tr oi oj i j | none => true) || bit B j i) &&
  (!bit B j i || oj.after.any fun e => Region.binds .any e && Nat.blt e.on j && (Nat.beq e.on i || (Nat.blt i e.on && bit B e.on i))) &&
  (!((idsOf (spAt tr j)).any fun x => inR tr i x) || bit B j i)
def chkOne (ops : Array Oper) (B : Array Nat) (nx0 : Nat) (tr : List (Nat × Sp)) (j : Nat) : Bool :=
  match ops[j]? with
  | none => false
  | some oj =>
    (oj.after.all fun e => !Region.binds .any e || Nat.blt e.on j) && Nat.ble nx0 (kAt tr j) &&
    ((idsOf (spAt tr j)).all fun x => Nat.blt x nx0 || (List.range (j + 1)).any fun i => inR tr i x) &&
    (List.range j).all fun i => chkPair ops B tr oj j i
def chkAll (ops : Array Oper) (nx0 : Nat) (tr : List (Nat × Sp)) : Bool :=
  Nat.beq tr.length ops.size && (List.range ops.size).all fun j => chkOne ops (Region.before ops) nx0 tr j

theorem imp_of {a b : Bool} (h : (!a || b) = true) : a = true → b = true := by cases a <;> simp_all

section
variable {ops : Array Oper} {B : Array Nat} {nx0 : Nat} {tr : List (Nat × Sp)}
structure Chk (ops : Array Oper) (B : Array Nat) (nx0 : Nat) (tr : List (Nat × Sp)) (j : Nat) (oj : Oper) : Prop where
  back : ∀ e ∈ oj.after, Region.binds .any e = true → e.on < j
  nx : nx0 ≤ kAt tr j
  ids : ∀ x ∈ idsOf (spAt tr j), x < nx0 ∨ ∃ i, i ≤ j ∧ inR tr i x = true
  rng : ∀ i, i < j → kAt tr i + (spAt tr i).frs.length ≤ kAt tr j
  conf : ∀ i oi, i < j → ops[i]? = some oi → conf ops tr oi oj i j = true → bit B j i = true
  cert : ∀ i, i < j → bit B j i = true → ∃ e ∈ oj.after, Region.binds .any e = true ∧ e.on < j ∧ (e.on = i ∨ (i < e.on ∧ bit B e.on i = true))
  idb : ∀ i x, i < j → x ∈ idsOf (spAt tr j) → inR tr i x = true → bit B j i = true
theorem chk_of {j : Nat} {oj : Oper} (h : chkOne ops B nx0 tr j = true) (hj : ops[j]? = some oj) : Chk ops B nx0 tr j oj := by
  unfold chkOne at h
  rw [hj] at h
  simp only [Bool.and_eq_true, List.all_eq_true] at h
  obtain ⟨⟨⟨h1, h2⟩, h3⟩, h4⟩ := h
  have h4' : ∀ i, i < j → chkPair ops B tr oj j i = true := fun i hi => h4 i (by simpa using hi)
  unfold chkPair at h4'
  simp only [Bool.and_eq_true] at h4'
  refine ⟨fun e he hb => ?_, ble_t.1 h2, fun x hx => ?_, fun i hi => ble_t.1 (h4' i hi).1.1.1, fun i oi hi ho hc => ?_, fun i hi hb => ?_, fun i x hi hx hr => ?_⟩
  · rw [Array.all_eq_true_iff_forall_mem] at h1
    have := h1 e he
    rw [hb] at this
    simpa using this
  · have := h3 x hx
    rw [Bool.or_eq_true, List.any_eq_true] at this
    rcases this with h | ⟨i, hi, hr⟩
    · exact .inl (blt_t.1 h)
    · exact .inr ⟨i, by have := List.mem_range.1 hi; omega, hr⟩
  · have := imp_of (h4' i hi).1.1.2
    rw [ho] at this
    exact this hc
  · have := imp_of (h4' i hi).1.2 hb
    rw [Array.any_eq_true'] at this
    obtain ⟨e, he, hx⟩ := this
    simp only [Bool.and_eq_true, Bool.or_eq_true] at hx
    exact ⟨e, he, hx.1.1, blt_t.1 hx.1.2, hx.2.imp (fun h => Nat.eq_of_beq_eq_true h) (fun h => ⟨blt_t.1 h.1, h.2⟩)⟩
  · exact imp_of (h4' i hi).2 (List.any_eq_true.2 ⟨x, hx, hr⟩)
end

/-! ## From the walk in the order of the text to any order -/
structure Text (P : Program) (L : Ln) (N : Nat) (ops : Array Oper) (chk : List (Nat × Sp) → Bool) (Q : St → Prop) (env0 : Nat → AV) (h0 : Nat → Option Blk) (p lo : Nat) (pre tr : List (Nat × Sp)) : Prop where
  len : tr.length = ops.size
  pre : tr.take p = pre
  chk : chk tr = true
  steps : ∀ q o, p ≤ q → ops[q]? = some o → StepA P L N ops o (envAt ops tr env0 all_ q) (hAt tr h0 all_ q) (kAt tr q) (spAt tr q)
  last : ∃ S, Q S ∧ S.envF = envAt ops tr env0 all_ ops.size ∧ S.HF = hAt tr h0 all_ ops.size ∧ (∀ q, p ≤ q → q < ops.size → kAt tr q + (spAt tr q).frs.length ≤ S.nx) ∧ lo ≤ S.nx

theorem text_of {P : Program} {L : Ln} {N : Nat} {ops : Array Oper} {chk : List (Nat × Sp) → Bool} {Q : St → Prop} {env0 : Nat → AV} {h0 : Nat → Option Blk} : ∀ (l : List Oper) (p : Nat) (S : St) (pre : List (Nat × Sp)), l = ops.toList.drop p → pre.length = p → p ≤ ops.size →
    (∀ tr : List (Nat × Sp), tr.take p = pre.reverse → envAt ops tr env0 all_ p = S.envF ∧ hAt tr h0 all_ p = S.HF) → wpA P L N ops chk Q l S pre → ∃ tr, Text P L N ops chk Q env0 h0 p S.nx pre.reverse tr ∧ ∀ q, p ≤ q → q < ops.size → S.nx ≤ kAt tr q
  | [], p, S, pre, hl, hp, hps, hE, h => by
    have hn : p = ops.size := by
      have := congrArg List.length hl
      simp at this
      omega
    have ht : pre.reverse.take p = pre.reverse := List.take_of_length_le (by simp [hp])
    obtain ⟨e1, e2⟩ := hE pre.reverse ht
    refine ⟨pre.reverse, ⟨by simp [hp, hn], ht, h.1, fun q o hq ho => ?_, S, h.2, by rw [← hn]; exact e1.symm, by rw [← hn]; exact e2.symm, fun q h1 h2 => by omega, Nat.le_refl _⟩, fun q h1 h2 => by omega⟩
    have : q < ops.size := by
      rcases Nat.lt_or_ge q ops.size with h' | h'
      · exact h'
      · rw [Array.getElem?_eq_none h'] at ho; cases ho
    omega
  | o :: l, p, S, pre, hl, hp, hps, hE, ⟨sp, h1, h2⟩ => by
    have hlt : p < ops.size := by
      have := congrArg List.length hl
      simp at this
      omega
    have ho : ops[p]? = some o := by
      have h3 : (ops.toList.drop p)[0]? = some o := by rw [← hl]; rfl
      simpa using h3
    have hl' : l = ops.toList.drop (p + 1) := by
      have h3 : (ops.toList.drop p).drop 1 = l := by rw [← hl]; rfl
      rw [← h3, List.drop_drop]
    have hk : ∀ tr : List (Nat × Sp), tr.take (p + 1) = ((S.nx, sp) :: pre).reverse → tr.take p = pre.reverse ∧ kAt tr p = S.nx ∧ spAt tr p = sp := by
      intro tr ht
      rw [List.reverse_cons] at ht
      have e1 : tr.take p = pre.reverse := by
        have := congrArg (List.take p) ht
        rw [List.take_take, Nat.min_eq_left (by omega), List.take_append_of_le_length (by simp [hp]), List.take_of_length_le (l := pre.reverse) (by simp [hp])] at this
        exact this
      have e2 : tr[p]? = some (S.nx, sp) := by
        have h4 : (tr.take (p + 1))[p]? = some (S.nx, sp) := by
          rw [ht, List.getElem?_append_right (by simp [hp])]
          simp [hp]
        rw [List.getElem?_take] at h4
        rwa [if_pos (by omega)] at h4
      exact ⟨e1, by simp [kAt, e2], by simp [spAt, e2]⟩
    obtain ⟨tr, T, hnx⟩ := text_of l (p + 1) (S.app o.dst sp) ((S.nx, sp) :: pre) hl' (by simp [hp]) hlt (fun tr ht => by
      obtain ⟨e1, e2, e3⟩ := hk tr ht
      obtain ⟨e4, e5⟩ := hE tr e1
      rw [envAt, hAt, e2, e3, app_env, app_H, e4, e5]
      have e6 : dstAt ops p = o.dst := by simp [dstAt, ho]
      rw [e6]
      exact ⟨rfl, rfl⟩) h2
    obtain ⟨e1, e2, e3⟩ := hk tr T.pre
    obtain ⟨e4, e5⟩ := hE tr e1
    have hsub : S.nx ≤ (S.app o.dst sp).nx := Nat.le_add_right _ _
    refine ⟨tr, ⟨T.len, e1, T.chk, fun q o' hq ho' => ?_, ?_⟩, fun q hq hq2 => ?_⟩
    · rcases Nat.lt_or_ge p q with h | h
      · exact T.steps q o' h ho'
      · have : q = p := by omega
        subst this
        rw [ho] at ho'
        injection ho' with ho'
        subst ho'
        rw [e2, e3, e4, e5]
        exact h1
    · obtain ⟨Sn, f1, f2, f3, f4, f5⟩ := T.last
      refine ⟨Sn, f1, f2, f3, fun q hq hq2 => ?_, Nat.le_trans hsub f5⟩
      rcases Nat.lt_or_ge p q with h | h
      · exact f4 q h hq2
      · have : q = p := by omega
        subst this
        rw [e2, e3]
        exact f5
    · rcases Nat.lt_or_ge p q with h | h
      · exact Nat.le_trans hsub (hnx q h hq2)
      · have : q = p := by omega
        subst this
        rw [e2]
        exact Nat.le_refl _

theorem mem_before {ops : Array Oper} {B : Array Nat} {nx0 : Nat} {tr : List (Nat × Sp)} {f : Nat → Bool} (hC : ∀ j oj, ops[j]? = some oj → Chk ops B nx0 tr j oj)
    (hdc : ∀ j oj, ops[j]? = some oj → f j = true → ∀ e ∈ oj.after, Region.binds .any e = true → f e.on = true) : ∀ (m j : Nat) (oj : Oper), j ≤ m → ops[j]? = some oj → (∀ e ∈ oj.after, Region.binds .any e = true → f e.on = true) → ∀ i, i < j → bit B j i = true → f i = true
  | 0, j, oj, hj, ho, he, i, hi, hb => by omega
  | m + 1, j, oj, hj, ho, he, i, hi, hb => by
    obtain ⟨e, he1, he2, he3, he4⟩ := (hC j oj ho).cert i hi hb
    have hf := he e he1 he2
    rcases he4 with rfl | he4
    · exact hf
    · have hlt : e.on < ops.size := by
        have : j < ops.size := by
          rcases Nat.lt_or_ge j ops.size with h' | h'
          · exact h'
          · rw [Array.getElem?_eq_none h'] at ho; cases ho
        omega
      have ho' : ops[e.on]? = some ops[e.on] := Array.getElem?_eq_getElem hlt
      exact mem_before hC hdc m e.on _ (by omega) ho' (fun e' h1 h2 => hdc e.on _ ho' hf e' h1 h2) i he4.1 he4.2

theorem OpOk.congr {P : Program} {o : Oper} {env env' : Nat → AV} {k : Nat} {sp : Sp} (h : OpOk P o env k sp) (he : ∀ t, Operand.tmp t ∈ o.op.operands.toList → env' t = env t) : OpOk P o env' k sp := by
  intro a w Z M h1 h2 h3 h4
  refine h a w Z M h1 (fun x hx => ?_) h3 h4
  have := h2 x hx
  cases x with
  | tmp t => simp only [evA] at this ⊢; rwa [he t hx] at this
  | const v => exact this
  | global g => exact this
  | func f => exact this

def cntF (f : Nat → Bool) : Nat → Nat
  | 0 => 0
  | n + 1 => cntF f n + bif f n then 0 else 1
theorem cntF_same {f g : Nat → Bool} : ∀ n, (∀ j, j < n → f j = g j) → cntF f n = cntF g n
  | 0, _ => rfl
  | n + 1, h => by rw [cntF, cntF, cntF_same n fun j hj => h j (by omega), h n (by omega)]
theorem cntF_upd {f f' : Nat → Bool} {q : Nat} (hf : f q = false) (hf' : f' q = true) (hs : ∀ j, j ≠ q → f' j = f j) : ∀ n, q < n → cntF f n = cntF f' n + 1
  | 0, h => by omega
  | n + 1, h => by
    rcases Nat.lt_or_ge q n with hq | hq
    · rw [cntF, cntF, cntF_upd hf hf' hs n hq, hs n (by omega)]; omega
    · have : q = n := by omega
      subst this
      rw [cntF, cntF, hf, hf', cntF_same q fun j hj => hs j (by omega)]
      rfl
theorem cntF_zero {f : Nat → Bool} : ∀ n, cntF f n = 0 → ∀ j, j < n → f j = true
  | 0, _, j, hj => by omega
  | n + 1, h, j, hj => by
    rw [cntF] at h
    rcases Nat.lt_or_ge j n with hq | hq
    · exact cntF_zero n (by omega) j hq
    · have : j = n := by omega
      subst this
      cases hf : f j with
      | true => rfl
      | false => rw [hf] at h; simp at h

section
variable {P : Program} {ops : Array Oper} {B : Array Nat} {nx0 : Nat} {tr : List (Nat × Sp)} {C : Cx} {env0 : Nat → AV} {h0 : Nat → Option Blk}
theorem inR_iff {q i : Nat} : inR tr q i = true ↔ kAt tr q ≤ i ∧ i < kAt tr q + (spAt tr q).frs.length := by
  unfold inR; rw [Bool.and_eq_true, ble_t, blt_t]
theorem size_lt {o : Oper} {q : Nat} (h : ops[q]? = some o) : q < ops.size := by
  rcases Nat.lt_or_ge q ops.size with h' | h'
  · exact h'
  · rw [Array.getElem?_eq_none h'] at h; cases h

/-- In the order of the text no number is named before it is made. -/
theorem text_ids {L : Ln} {N : Nat} (hC : ∀ j oj, ops[j]? = some oj → Chk ops B nx0 tr j oj) (hT : ∀ q o, ops[q]? = some o → StepA P L N ops o (envAt ops tr env0 all_ q) (hAt tr h0 all_ q) (kAt tr q) (spAt tr q))
    (he : ∀ t, ∀ i ∈ (env0 t).ids, i < nx0) (hh : ∀ i b, h0 i = some b → i < nx0 ∧ ∀ j ∈ b.ids, j < nx0) : ∀ q, q ≤ ops.size → ∀ K, nx0 ≤ K → (∀ j, j < q → kAt tr j + (spAt tr j).frs.length ≤ K) →
    (∀ t, ∀ i ∈ (envAt ops tr env0 all_ q t).ids, i < K) ∧ (∀ i b, hAt tr h0 all_ q i = some b → i < K ∧ ∀ j ∈ b.ids, j < K)
  | 0, _, K, hK, _ => ⟨fun t i hi => Nat.lt_of_lt_of_le (he t i hi) hK, fun i b hb => ⟨Nat.lt_of_lt_of_le (hh i b hb).1 hK, fun j hj => Nat.lt_of_lt_of_le ((hh i b hb).2 j hj) hK⟩⟩
  | q + 1, hq, K, hK, hj => by
    have hlt : q < ops.size := hq
    have ho : ops[q]? = some ops[q] := Array.getElem?_eq_getElem hlt
    have hc := hC q _ ho
    obtain ⟨i1, i2⟩ := text_ids hC hT he hh q (by omega) K hK (fun j h => hj j (by omega))
    obtain ⟨i3, i4⟩ := text_ids hC hT he hh q (by omega) (kAt tr q) hc.nx (fun j h => hc.rng j h)
    have hids : ∀ x ∈ idsOf (spAt tr q), x < K := by
      intro x hx
      rcases hc.ids x hx with h | ⟨i, h1, h2⟩
      · omega
      · have := (inR_iff.1 h2).2
        have := hj i (by omega)
        omega
    have hsp := (hT q _ ho).sp (fun i => i < kAt tr q) i3 i4 (fun i hi => .inl hi)
    refine ⟨fun t i hi => ?_, fun i b hb => ?_⟩
    · rw [envAt] at hi
      simp only [all_, cond_true, updE] at hi
      split at hi
      · exact hids i (by unfold idsOf; exact List.mem_append_left _ hi)
      · exact i1 t i hi
    · rw [hAt] at hb
      simp only [all_, cond_true, updH] at hb
      split at hb
      · rename_i hr
        refine ⟨by have := hj q (by omega); omega, fun j hjb => hids j ?_⟩
        unfold idsOf
        exact List.mem_append_right _ (List.mem_append_left _ (List.mem_flatMap.2 ⟨b, List.mem_of_getElem? hb, hjb⟩))
      · split at hb
        · rename_i o hl
          subst hb
          have hm := lookup_mem hl
          obtain ⟨c, hcb⟩ := hsp.up i _ hm
          refine ⟨(i2 i c (hsp.rd i c hcb)).1, fun j hjb => hids j ?_⟩
          unfold idsOf
          exact List.mem_append_right _ (List.mem_append_right _ (List.mem_flatMap.2 ⟨_, hm, hjb⟩))
        · exact i2 i b hb

def Df (ops : Array Oper) (nx0 : Nat) (tr : List (Nat × Sp)) (f : Nat → Bool) (i : Nat) : Prop := i < nx0 ∨ ∃ q, q < ops.size ∧ f q = true ∧ inR tr q i = true

theorem wpAny_of_text {Q' : Exit → Act → World → Prop} (hP : C.P = P) (hC : ∀ j oj, ops[j]? = some oj → Chk ops B nx0 tr j oj) (hT : ∀ q o, ops[q]? = some o → StepA P C.ln C.N ops o (envAt ops tr env0 all_ q) (hAt tr h0 all_ q) (kAt tr q) (spAt tr q))
    (he : ∀ t, ∀ i ∈ (env0 t).ids, i < nx0) (hh : ∀ i b, h0 i = some b → i < nx0 ∧ ∀ j ∈ b.ids, j < nx0)
    (hQ : ∀ Z a w, SimF C (Df ops nx0 tr all_) (envAt ops tr env0 all_ ops.size) (hAt tr h0 all_ ops.size) Z a w → Q' .normal a w) : ∀ (fuel : Nat) (listed : Array Bool) (a : Act) (w : World), listed.size = ops.size → cntF (fun q => listed.getD q false) ops.size = fuel →
    (∀ j oj, ops[j]? = some oj → listed.getD j false = true → ∀ e ∈ oj.after, Region.binds .any e = true → listed.getD e.on false = true) →
    (∃ Z, SimF C (Df ops nx0 tr fun q => listed.getD q false) (envAt ops tr env0 (fun q => listed.getD q false) ops.size) (hAt tr h0 (fun q => listed.getD q false) ops.size) Z a w) → wpAny P .any ops Q' fuel listed a w := by
  have hend : ∀ (listed : Array Bool) (a : Act) (w : World), (∀ j, j < ops.size → listed.getD j false = true) →
      (∃ Z, SimF C (Df ops nx0 tr fun q => listed.getD q false) (envAt ops tr env0 (fun q => listed.getD q false) ops.size) (hAt tr h0 (fun q => listed.getD q false) ops.size) Z a w) → Q' .normal a w := by
    rintro listed a w hall ⟨Z, S⟩
    have e1 : envAt ops tr env0 (fun q => listed.getD q false) ops.size = envAt ops tr env0 all_ ops.size := by
      funext t; exact envAt_same _ fun j hj _ => hall j hj
    have e2 : hAt tr h0 (fun q => listed.getD q false) ops.size = hAt tr h0 all_ ops.size := by
      funext t; exact hAt_same _ fun j hj _ => hall j hj
    rw [e1, e2] at S
    exact hQ Z a w (S.monoD fun i hi => hi.imp id fun ⟨q, h1, _, h3⟩ => ⟨q, h1, rfl, h3⟩)
  intro fuel
  induction fuel with
  | zero =>
    intro listed a w hsz hcnt hdc hS
    have hall := cntF_zero _ hcnt
    refine ⟨?_, hend listed a w hall hS⟩
    rw [List.eq_nil_iff_forall_not_mem]
    intro j hj
    obtain ⟨h1, o, ho, _⟩ := mem_ready.1 hj
    have h2 := hall j (size_lt ho)
    have hj' : j < listed.size := by rw [hsz]; exact size_lt ho
    simp [hj'] at h1 h2
    rw [h1] at h2; cases h2
  | succ fuel ih =>
    intro listed a w hsz hcnt hdc hS
    refine ⟨fun hr => hend listed a w ?_ hS, fun q hq => ?_⟩
    · intro j hj
      induction j using Nat.strongRecOn with
      | _ j ihj =>
        cases hl : listed.getD j false with
        | true => rfl
        | false =>
          exfalso
          have ho : ops[j]? = some ops[j] := Array.getElem?_eq_getElem hj
          have hm : j ∈ Region.ready .any ops listed := mem_ready.2 ⟨by
            have hj' : j < listed.size := by omega
            simpa [hj'] using hl, _, ho, fun e h1 h2 => by
              have := (hC j _ ho).back e h1 h2
              exact ihj e.on this (by omega)⟩
          rw [hr] at hm
          cases hm
    · obtain ⟨hq1, o, ho, hedge⟩ := mem_ready.1 hq
      have hqs := size_lt ho
      have hfq : listed.getD q false = false := by
        have hj' : q < listed.size := by omega
        simpa [hj'] using hq1
      obtain ⟨Z, S⟩ := hS
      have hc := hC q o ho
      have hst := hT q o ho
      generalize hf : (fun q => listed.getD q false) = f at *
      have hfe : ∀ j, listed.getD j false = f j := fun j => by rw [← hf]
      simp only [hfe] at hfq hdc hedge
      -- those before it that matter have been carried out; those behind it that matter have not
      have hbef : ∀ i, i < q → bit B q i = true → f i = true := mem_before hC hdc q q o (Nat.le_refl _) ho hedge
      have haft : ∀ j oj, q < j → ops[j]? = some oj → bit B j q = true → f j = false := by
        intro j oj hqj hoj hb
        cases hfj : f j with
        | false => rfl
        | true =>
          have := mem_before hC hdc j j oj (Nat.le_refl _) hoj (fun e h1 h2 => hdc j oj hoj hfj e h1 h2) q hqj hb
          rw [hfq] at this; cases this
      have hcl : ∀ i oi, i < q → ops[i]? = some oi → conf ops tr oi o i q = true → f i = true := fun i oi h1 h2 h3 => hbef i h1 (hc.conf i oi h1 h2 h3)
      have hca : ∀ j oj, q < j → ops[j]? = some oj → conf ops tr o oj q j = true → f j = false := fun j oj h1 h2 h3 => haft j oj h1 h2 ((hC j oj h2).conf q o h1 ho h3)
      have hdst : ∀ {j oj t}, ops[j]? = some oj → (dstAt ops j = some t ↔ oj.dst = some t) := fun {j oj t} h => by simp [dstAt, h]
      have henv : ∀ t, t ∈ o.looksAt ops → envAt ops tr env0 f ops.size t = envAt ops tr env0 all_ q t := by
        intro t ht
        rw [envAt_other q ops.size (by omega) (fun j h1 h2 h3 => ?_)]
        · refine envAt_same q fun j hj hd => ?_
          have hoj : ops[j]? = some ops[j] := Array.getElem?_eq_getElem (by omega)
          refine hcl j _ hj hoj ?_
          unfold conf
          rw [(hdst hoj).1 hd]
          simp [ht]
        · rcases Nat.lt_or_ge q j with hqj | hqj
          · have hoj : ops[j]? = some ops[j] := Array.getElem?_eq_getElem h2
            refine hca j _ hqj hoj ?_
            unfold conf
            rw [(hdst hoj).1 h3]
            simp [ht]
          · have : j = q := by omega
            subst this; exact hfq
      obtain ⟨i3, i4⟩ := text_ids hC hT he hh q (by omega) (kAt tr q) hc.nx (fun j h => hc.rng j h)
      have hsp := hst.sp (fun i => i < kAt tr q) i3 i4 (fun i hi => .inl hi)
      have hH : ∀ i b, (i, b) ∈ (spAt tr q).rd → hAt tr h0 f ops.size i = hAt tr h0 all_ q i := by
        intro i b hib
        rw [hAt_other q ops.size (by omega) (fun j h1 h2 h3 => ?_)]
        · refine hAt_same q fun j hj hd => ?_
          have hoj : ops[j]? = some ops[j] := Array.getElem?_eq_getElem (by omega)
          refine hcl j _ hj hoj ?_
          unfold conf
          have : ((spAt tr q).rd.any fun p => tou tr j p.1) = true := List.any_eq_true.2 ⟨_, hib, hd⟩
          simp [this]
        · rcases Nat.lt_or_ge q j with hqj | hqj
          · have hoj : ops[j]? = some ops[j] := Array.getElem?_eq_getElem h2
            refine hca j _ hqj hoj ?_
            unfold conf
            have : ((spAt tr q).rd.any fun p => tou tr j p.1) = true := List.any_eq_true.2 ⟨_, hib, h3⟩
            simp [this]
          · have : j = q := by omega
            subst this; exact hfq
      have hids : ∀ x ∈ idsOf (spAt tr q), Df ops nx0 tr f x ∨ (kAt tr q ≤ x ∧ x < kAt tr q + (spAt tr q).frs.length) := by
        intro x hx
        rcases hc.ids x hx with h | ⟨i, h1, h2⟩
        · exact .inl (.inl h)
        · rcases Nat.lt_or_ge i q with h3 | h3
          · exact .inl (.inr ⟨i, by omega, hbef i h3 (hc.idb i x h3 hx h2), h2⟩)
          · have : i = q := by omega
            subst this
            exact .inr (inR_iff.1 h2)
      have hsp' : SpOk C.ln (Df ops nx0 tr f) (hAt tr h0 f ops.size) (kAt tr q) (spAt tr q) := by
        refine ⟨fun i b hib => (hH i b hib).trans (hsp.rd i b hib), hsp.up, hsp.nd, hsp.loc, fun i hi => ?_, fun i hi => hids i ?_, fun b hb i hi => hids i ?_, fun j b hjb i hi => hids i ?_⟩
        · rcases hi with h | ⟨j, hj, hfj, hr⟩
          · exact .inl (Nat.lt_of_lt_of_le h hc.nx)
          · have hr' := inR_iff.1 hr
            rcases Nat.lt_trichotomy j q with h | h | h
            · have := hc.rng j h; exact .inl (by omega)
            · subst h; rw [hfq] at hfj; cases hfj
            · have hoj : ops[j]? = some ops[j] := Array.getElem?_eq_getElem hj
              have := (hC j _ hoj).rng q h
              exact .inr (by omega)
        · unfold idsOf; exact List.mem_append_left _ hi
        · unfold idsOf; exact List.mem_append_right _ (List.mem_append_left _ (List.mem_flatMap.2 ⟨b, hb, hi⟩))
        · unfold idsOf; exact List.mem_append_right _ (List.mem_append_right _ (List.mem_flatMap.2 ⟨_, hjb, hi⟩))
      have hwant : Wanted ops (envAt ops tr env0 f ops.size) o (spAt tr q).run := by
        rcases hst.want with h | ⟨j, want, t, x, h1, h2, h3, h4⟩ | ⟨j, want, t, h1, h2, h3, h4⟩
        · exact .inl h
        · refine .inr (.inl ⟨j, want, t, x, h1, h2, ?_, h4⟩)
          rw [henv t ?_]
          · exact h3
          · unfold Oper.looksAt
            rw [h1]
            refine List.mem_append_right _ ?_
            simp [h2]
        · refine .inr (.inr ⟨j, want, t, h1, h2, ?_, h4⟩)
          rw [henv t ?_]
          · exact h3
          · unfold Oper.looksAt
            rw [h1]
            refine List.mem_append_right _ ?_
            simp [h2]
      have hkeepf : ∀ j, (listed.setIfInBounds q true).getD j false = if j = q then true else f j := by
        intro j
        by_cases hjq : j = q
        · subst hjq
          have : j < listed.size := by omega
          simp [this]
        · rw [if_neg hjq, ← hfe]
          simp [Array.getElem?_setIfInBounds_ne (Ne.symm hjq)]
      unfold wpOp
      rw [ho]
      simp only
      refine S.oper (k := kAt tr q) (sp := spAt tr q) hP rfl hst.dst hwant (fun hr => (hst.ok hr).congr fun t ht => henv t ?_) hst.skip hsp' fun Z' a' w' S' => ?_
      · unfold Oper.looksAt
        exact List.mem_append_left _ (List.mem_filterMap.2 ⟨_, ht, rfl⟩)
      · refine ih _ a' w' (by simpa using hsz) ?_ ?_ ⟨Z', ?_⟩
        · have := cntF_upd (f := f) (f' := fun j => (listed.setIfInBounds q true).getD j false) (q := q) hfq (by simp [hkeepf]) (fun j hj => by simp [hkeepf, hj]) ops.size hqs
          omega
        · intro j oj hoj hfj e h1 h2
          rw [hkeepf] at hfj ⊢
          split
          · rfl
          · split at hfj
            · rename_i hjq
              subst hjq
              rw [ho] at hoj
              injection hoj with hoj
              subst hoj
              exact hedge e h1 h2
            · exact hdc j oj hoj hfj e h1 h2
        · have e1 := envAt_ins (ops := ops) (tr := tr) (env0 := env0) (f := f) (f' := fun j => (listed.setIfInBounds q true).getD j false) hqs hfq (by simp [hkeepf]) (fun j hj => by simp [hkeepf, hj]) (fun j h1 h2 h3 t h4 h5 => by
            have hoj : ops[j]? = some ops[j] := Array.getElem?_eq_getElem h2
            have : f j = false := hca j _ h1 hoj (by
              unfold conf
              rw [(hdst ho).1 h5, (hdst hoj).1 h4]
              simp)
            rw [h3] at this; cases this)
          have e2 := hAt_ins (tr := tr) (h0 := h0) (f := f) (f' := fun j => (listed.setIfInBounds q true).getD j false) hqs hfq (by simp [hkeepf]) (fun j hj => by simp [hkeepf, hj]) (fun j h1 h2 h3 i h4 => by
            have hoj : ops[j]? = some ops[j] := Array.getElem?_eq_getElem h2
            cases htq : tou tr q i with
            | false => rfl
            | true =>
              exfalso
              have hrng := (hC j _ hoj).rng q h1
              unfold tou at h4
              rw [Bool.or_eq_true] at h4
              rcases h4 with h4 | h4
              · have h5 := inR_iff.1 h4
                unfold tou at htq
                rw [Bool.or_eq_true] at htq
                rcases htq with h6 | h6
                · have := inR_iff.1 h6; omega
                · obtain ⟨p, hp, hpi⟩ := List.any_eq_true.1 h6
                  have hpi' := Nat.eq_of_beq_eq_true hpi
                  obtain ⟨c, hcb⟩ := hsp.up p.1 p.2 hp
                  have := (i4 p.1 c (hsp.rd _ _ hcb)).1
                  omega
              · obtain ⟨p, hp, hpi⟩ := List.any_eq_true.1 h4
                have hpi' := Nat.eq_of_beq_eq_true hpi
                have : f j = false := hca j _ h1 hoj (by
                  unfold conf
                  have : ((spAt tr j).up.any fun p => tou tr q p.1) = true := List.any_eq_true.2 ⟨p, hp, by rw [hpi']; exact htq⟩
                  simp [this])
                rw [h3] at this; cases this)
          rw [e1, e2]
          have ed : dstAt ops q = o.dst := by simp [dstAt, ho]
          rw [ed]
          refine S'.monoD fun i hi => ?_
          rcases hi with (h | ⟨j, h1, h2, h3⟩) | h
          · exact .inl h
          · exact .inr ⟨j, h1, by show (listed.setIfInBounds q true).getD j false = true; rw [hkeepf]; split <;> first | rfl | exact h2, h3⟩
          · exact .inr ⟨q, hqs, by show (listed.setIfInBounds q true).getD q false = true; rw [hkeepf, if_pos rfl], inR_iff.2 h⟩
end

/-- Where the world has turned in what it counts alone. -/
theorem SimF.world {C : Cx} {D : Nat → Prop} {env : Nat → AV} {H : Nat → Option Blk} {Z : Nat → Value} {a : Act} {w w' : World} (S : SimF C D env H Z a w) (h : Below w.heap.size w w') : SimF C D env H Z a w' :=
  ⟨S.size, S.defers, S.frame.trans (Upto.of_below h), S.m0, fun t => AV.rep_mono (Upto.of_below h) (fun _ _ hb => hb) _ (fun _ _ => rfl) _ (S.slots t), S.ids,
    fun i b hb => ⟨(S.holds i b hb).1.keep (Upto.of_below h) (fun _ _ hb => hb) rfl (fun _ _ => rfl) (fun x hx => h.block x ((S.holds i b hb).1.lt hx)), (S.holds i b hb).2⟩, S.dist, S.fresh, S.lm, S.zl⟩
theorem Sim.world {C : Cx} {S : St} {a : Act} {w w' : World} (h : Sim C S a w) (hb : Below w.heap.size w w') : Sim C S a w' := h.imp fun _ h => h.world hb

/-- A region whose order is open. -/
theorem wp_region_A {P : Program} {id : Nat} {ops : Array Oper} {S : St} {a : Act} {w : World} {Q : St → Prop} {Q' : Exit → Act → World → Prop} {C : Cx} (hP : C.P = P) (hm : P.follows .mixedOrders = true) (h : wpA P C.ln C.N ops (chkAll ops S.nx) Q ops.toList S []) (hs : Sim C S a w)
    (hQ : ∀ S a w, Q S → Sim C S a w → Q' .normal a w) : (Code.region id ops true).wp P Q' a w := by
  refine wp_region_any hm ?_
  obtain ⟨Z, hs⟩ := hs
  obtain ⟨tr, T, _⟩ := text_of (env0 := S.envF) (h0 := S.HF) ops.toList 0 S [] rfl rfl (Nat.zero_le _) (fun tr _ => ⟨rfl, rfl⟩) h
  have hck := T.chk
  unfold chkAll at hck
  rw [Bool.and_eq_true, List.all_eq_true] at hck
  have hC : ∀ j oj, ops[j]? = some oj → Chk ops (Region.before ops) S.nx tr j oj := fun j oj hj => chk_of (hck.2 j (by simpa using size_lt hj)) hj
  obtain ⟨Sn, f1, f2, f3, f4, f5⟩ := T.last
  refine wpAny_of_text hP hC (fun q o ho => T.steps q o (Nat.zero_le _) ho) hs.ids (fun i b hb => (hs.holds i b hb).2) (fun Z a w hS => hQ Sn a w f1 ⟨Z, ?_⟩) ops.size _ a _ (by simp) ?_ ?_ ⟨Z, ?_⟩
  · rw [f2, f3]
    refine hS.monoD fun i hi => ?_
    rcases hi with h | ⟨q, h1, _, h3⟩
    · omega
    · have := (inR_iff.1 h3).2
      have := f4 q (Nat.zero_le _) h1
      omega
  · have : ∀ n, n ≤ ops.size → cntF (fun q => (Array.replicate ops.size false).getD q false) n = n := by
      intro n
      induction n with
      | zero => intro _; rfl
      | succ n ih =>
        intro hn
        rw [cntF, ih (by omega)]
        have : (Array.replicate ops.size false).getD n false = false := by
          have h0 : n < ops.size := hn
          simp [h0]
        rw [this]
        rfl
    exact this _ (Nat.le_refl _)
  · intro j oj hj hl
    have h0 : j < ops.size := size_lt hj
    simp [h0] at hl
  · have e1 : ∀ n, envAt ops tr S.envF (fun q => (Array.replicate ops.size false).getD q false) n = S.envF := by
      intro n
      induction n with
      | zero => rfl
      | succ n ih =>
        rw [envAt, ih]
        have : (Array.replicate ops.size false).getD n false = false := by
          by_cases h0 : n < ops.size <;> simp [h0]
        rw [this]
        rfl
    have e2 : ∀ n, hAt tr S.HF (fun q => (Array.replicate ops.size false).getD q false) n = S.HF := by
      intro n
      induction n with
      | zero => rfl
      | succ n ih =>
        rw [hAt, ih]
        have : (Array.replicate ops.size false).getD n false = false := by
          by_cases h0 : n < ops.size <;> simp [h0]
        rw [this]
        rfl
    rw [e1, e2]
    exact (hs.world (Below.refl _ _).drew).monoD fun i hi => .inl hi
end Go.Ab
