/- Texts of the second layer in one: Ai1 Ai2. -/
import Derived.Test.YtibedaeefnjjlaaGreatG17
import Derived.OwnWalkIn
import Derived.TacticsIn
import Derived.RangeFuncIn
import Derived.RangeFuncCalls
import Derived.RangeFuncLeaves
import Derived.RangeFuncFrom
/- The second layer within a round of a range over a function. No conditions. --ext6 -/
namespace Go.Ab
open Go.RowKit
set_option linter.unusedVariables false
set_option linter.unusedSimpArgs false

/-- A fence that bars nothing. -/
structure FOk (P : Program) (F : Fence) (n : Nat) : Prop where
  fn : ∀ f, F.fn f
  calls : ∀ f args w R, Calls P f args w R → CallsIn F (n - 1) P f args w R
  depth : F.depth.isSome = true → 1 ≤ n
theorem fok_wide (P : Program) (n : Nat) : FOk P Fence.wide n := ⟨fun _ => trivial, fun f args w R h => callsIn_wide.2 h, fun h => by cases h⟩
theorem fok_round (P : Program) (l n : Nat) : FOk P (Fence.wide.inRound l) n := ⟨fun _ => trivial, fun f args w R h => CallsIn.inRound l (callsIn_wide.2 h), fun h => by cases h⟩

theorem exec_not_defer {P : Program} {o : Oper} {a : Act} {w : World} {R : Value → World → Prop} (h : Exec P o a w R) : ∀ c, o.op ≠ .defer c := by
  intro c hc
  unfold Exec at h
  have : execOp a.eval o = (do pure (.defer (← resolve a.eval c o.type)) : Sem Next) := by
    obtain ⟨d, op, ty, pos, af, g⟩ := o
    simp only at hc
    subst hc
    rfl
  rw [this] at h
  simp only [Sem.run_bind, Sem.run_pure] at h
  generalize (resolve a.eval c o.type).run P w = r at h
  cases r <;> simp [Result.andThen] at h
section
variable {F : Fence} {n : Nat} {P : Program}
theorem Exec.wpIn {o : Oper} {a : Act} {w : World} {R : Value → World → Prop} {next : Act → World → Prop} {Q : Exit → Act → World → Prop} (hF : FOk P F n) (h : Exec P o a w R) (hn : ∀ v w', R v w' → next (a.put o.dst v) w') : o.wpIn F n P a w next Q := by
  refine ⟨fun f _ => hF.fn f, ?_⟩
  rw [Oper.semAt_plain F _ _ (exec_not_defer h)]
  unfold Exec at h
  generalize (execOp a.eval o).run P w = r at *
  cases r with
  | ok x w' =>
    cases x <;> simp only [Oper.uponIn] at h ⊢
    case value v => exact hn _ _ h
    case skip => exact hn _ _ h
    case enter f args => exact ⟨hF.depth, (hF.calls _ _ _ _ h).mono fun e w'' ⟨v, e1, hr⟩ => by subst e1; exact hn _ _ hr⟩
  | halt x w' => exact h.elim
theorem SimF.operIn {N : Nat} {ops : Array Oper} {o : Oper} {C : Cx} {D : Nat → Prop} {env : Nat → AV} {H : Nat → Option Blk} {Z : Nat → Value} {a : Act} {w : World} {k : Nat} {sp : Sp} {next : Act → World → Prop} {Q : Exit → Act → World → Prop} (hF : FOk P F n)
    (S : SimF C D env H Z a w) (hP : C.P = P) (hN : C.N = N) (hdst : ∀ x, o.dst = some x → x < N) (hw : Wanted ops env o sp.run) (hok : sp.run = true → OpOk P o env k sp) (hskip : sp.run = false → sp = skipSp) (hsp : SpOk C.ln D H k sp)
    (hn : ∀ Z' a' w', SimF C (fun i => D i ∨ (k ≤ i ∧ i < k + sp.frs.length)) (updE o.dst sp.out env) (updH k sp H) Z' a' w' → next a' w') :
    if Region.wanted o (yielded ops a.tmps) then o.wpIn F n P a w next Q else (∀ f, o.about P w a.eval = some f → F.fn f) ∧ next (a.put o.dst undef) w := by
  rw [wanted_of S hw]
  cases hr : sp.run with
  | true =>
    rw [if_pos rfl]
    refine (hok hr a w Z (Own C H Z) S.m_lt (fun x _ => S.ev x) (fun i b hb => ⟨(S.holds i b (hsp.rd i b hb)).1, fun x hx => .inr ⟨i, b, hsp.rd i b hb, hx⟩⟩) (fun i j b c hb hc hij x hx => S.dist i j b c (hsp.rd i b hb) (hsp.rd j c hc) hij x hx)).wpIn hF fun v w' hA => ?_
    obtain ⟨Z', S'⟩ := S.step hsp (d := o.dst) (fun x hx => hN ▸ hdst x hx) hA
    exact hn _ _ _ S'
  | false =>
    rw [if_neg (by simp)]
    have e := hskip hr
    obtain ⟨Z', S'⟩ := S.step hsp (d := o.dst) (v := undef) (w' := w) (fun x hx => hN ▸ hdst x hx) ⟨Z, by
      subst e
      exact ⟨fun _ _ => rfl, by simp only [skipSp, AV.rep, RV.rep], fun i b h => by simp [skipSp] at h, fun j b h => by simp [skipSp] at h, fun j j' x h => by simp [skipSp] at h, fun j x h => by simp [skipSp] at h, Upto.refl _⟩⟩
    exact ⟨fun f _ => hF.fn f, hn _ _ _ S'⟩
/-- The first operations of a region. -/
theorem wpListIn_of_wpA {ops : Array Oper} {chk : List (Nat × Sp) → Bool} {Q : St → Prop} {Q' : Exit → Act → World → Prop} {C : Cx} (hF : FOk P F n) (hP : C.P = P) {rest : List Oper} (hQ : ∀ S a w, Q S → Sim C S a w → wpListIn F n P ops Q' rest a w) :
    ∀ (l : List Oper) (S : St) (tr : List (Nat × Sp)) (a : Act) (w : World), wpA P C.ln C.N ops chk Q l S tr → Sim C S a w → wpListIn F n P ops Q' (l ++ rest) a w
  | [], S, tr, a, w, h, hs => hQ S a w h.2 hs
  | o :: l, S, tr, a, w, ⟨sp, h1, h2⟩, ⟨Z, hs⟩ => by
    rw [List.cons_append]
    unfold wpListIn
    have hsp := h1.sp (fun i => i < S.nx) hs.ids (fun i b hb => ⟨(hs.holds i b hb).2.1, (hs.holds i b hb).2.2⟩) (fun i hi => .inl hi)
    refine hs.operIn hF (k := S.nx) (sp := sp) hP rfl h1.dst h1.want h1.ok h1.skip hsp fun Z' a' w' hs' => ?_
    refine wpListIn_of_wpA hF hP hQ l (S.app o.dst sp) _ a' w' h2 ⟨Z', ?_⟩
    rw [app_env, app_H]
    exact hs'.monoD fun i hi => by
      show i < S.nx + sp.frs.length
      have : ∀ i, i < S.nx ∨ (S.nx ≤ i ∧ i < S.nx + sp.frs.length) → i < S.nx + sp.frs.length := by intro i h; omega
      exact this i hi
/-- A walk of code behind a fence. -/
def awpIn (F : Fence) (n : Nat) (P : Program) (L : Ln) (N : Nat) (c : Code) (Q : Exit → St → Prop) (S : St) : Prop :=
  ∀ (C : Cx), C.P = P → C.ln = L → C.N = N → ∀ a w, Sim C S a w → c.wpIn F n P (fun e a' w' => ∃ S', Q e S' ∧ Sim C S' a' w') a w
section
variable {L : Ln} {N : Nat} {Q : Exit → St → Prop} {S : St}
theorem awpIn_block {id : Nat} {c : Code} (h : awpIn F n P L N c (blockA id Q) S) : awpIn F n P L N (.block id c) Q S := by
  intro C h1 h2 h3 a w hs
  refine wpIn_block (wpIn_mono (h C h1 h2 h3 a w hs) fun e a' w' ⟨S', h4, h5⟩ => ?_)
  cases e with
  | normal => exact ⟨S', h4, h5⟩
  | exit id' =>
    simp only [Exit.inBlock]
    simp only [blockA] at h4
    by_cases hid : id' = id
    · subst hid
      rw [if_pos rfl]
      rw [show Nat.beq id' id' = true by simp] at h4
      exact ⟨S', h4, h5⟩
    · rw [if_neg hid]
      have : Nat.beq id' id = false := by cases hb : Nat.beq id' id with
        | false => rfl
        | true => exact absurd (Nat.eq_of_beq_eq_true hb) hid
      rw [this] at h4
      exact ⟨S', h4, h5⟩
  | goto l => exact ⟨S', h4, h5⟩
  | ret => exact ⟨S', h4, h5⟩
  | panic ch => exact ⟨S', h4, h5⟩
  | outgrown => exact ⟨S', h4, h5⟩
theorem awpIn_text {id : Nat} {l : List Oper} (hF : FOk P F n) (h : wpA P L N l.toArray (fun _ => true) (Q .normal) l S []) : awpIn F n P L N (.region id l.toArray false) Q S := by
  intro C h1 h2 h3 a w hs
  subst h1 h2 h3
  refine wpIn_region_lit ?_
  have := wpListIn_of_wpA (ops := l.toArray) (rest := []) (Q' := fun e a' w' => ∃ S', Q e S' ∧ Sim C S' a' w') hF rfl (fun S' a' w' h4 h5 => ⟨S', h4, h5⟩) l S [] a w h hs
  rwa [List.append_nil] at this
end
end
end Go.Ab

/- The second layer: a range over a function that gives the elements of a slice. No conditions. --ext6 -/
namespace Go.Ab
open Go.RowKit
set_option linter.unusedVariables false
set_option linter.unusedSimpArgs false

/-- From one world to a later one: what is not owned stays, and nothing that was there becomes owned. -/
structure Kp (B B' : Nat → Prop) (W W' : World) : Prop where
  up : Upto B W W'
  old : ∀ k, k < W.heap.size → B' k → B k
theorem Kp.refl (B : Nat → Prop) (W : World) : Kp B B W W := ⟨Upto.refl _, fun _ _ h => h⟩
theorem Kp.trans {B B1 B2 : Nat → Prop} {U V W : World} (h : Kp B B1 U V) (k : Kp B1 B2 V W) : Kp B B2 U W :=
  ⟨⟨k.up.os.trans h.up.os, k.up.tape.trans h.up.tape, k.up.output.trans h.up.output, Nat.le_trans h.up.size k.up.size, fun x hx hn => (k.up.block x (Nat.lt_of_lt_of_le hx h.up.size) fun hb => hn (h.old x hx hb)).trans (h.up.block x hx hn)⟩, fun x hx hd => h.old x hx (k.old x (Nat.lt_of_lt_of_le hx h.up.size) hd)⟩
theorem Kp.below {B : Nat → Prop} {W W' : World} (hb : Below W.heap.size W W') : Kp B B W W' := ⟨Upto.of_below hb, fun _ _ h => h⟩
theorem Kp.rep {B B' : Nat → Prop} {W W' : World} {Z Z' : Nat → Value} (h : Kp B B' W W') {c : AV} {u : Value} (hz : ∀ i ∈ c.ids, Z' i = Z i) (hr : AV.rep Z B W c u) : AV.rep Z' B' W' c u := AV.rep_mono h.up h.old c hz u hr
section
variable {C : Cx} {S : St} {F F1 F2 : Fam} {a : Act} {w : World} {Z : Nat → Value} {K : Nat}
theorem SimK.world (h : SimK C S F a w Z K) {w' : World} (hb : Below w.heap.size w w') : SimK C S F a w' Z K := ⟨h.le, h.top, h.eid, h.bid, h.fam, h.sim.world hb⟩
theorem SimX.world (h : SimX C S F a w) {w' : World} (hb : Below w.heap.size w w') : SimX C S F a w' := by
  obtain ⟨Z, K, h⟩ := h
  exact ⟨Z, K, h.world hb⟩
/-- An object of the family turns into another. -/
theorem SimK.reobj (hl : C.ln = ⟨0, 0⟩) {l : Nat} {o o' : Obj} (h : SimK C S (F1 ++ (.pointer (some ⟨l, 0, none⟩), .obj o) :: F2) a w Z K) (ho : ∀ cs T fr, o' ≠ .cells cs T fr) :
    w.heap[l]? = some o ∧ SimK C S (F1 ++ (.pointer (some ⟨l, 0, none⟩), .obj o') :: F2) a (w.putObj l o') Z K ∧ Kp (Own C (famH K S.HF (F1 ++ (.pointer (some ⟨l, 0, none⟩), .obj o) :: F2)) Z) (Own C (famH K S.HF (F1 ++ (.pointer (some ⟨l, 0, none⟩), .obj o') :: F2)) Z) w (w.putObj l o') := by
  have hs := h.sim
  have hnl : C.nl = 0 := by unfold Cx.nl; rw [hl]
  have hm0 : C.ln.m = 0 := by rw [hl]
  have hmid : (F1 ++ (.pointer (some ⟨l, 0, none⟩), Blk.obj o) :: F2)[F1.length]? = some (.pointer (some ⟨l, 0, none⟩), Blk.obj o) := by rw [List.getElem?_append_right (Nat.le_refl _), Nat.sub_self]; rfl
  obtain ⟨f1, _⟩ := h.fam _ _ hmid
  simp only at f1
  obtain ⟨b, e1, hg, _⟩ := (hs.holds _ _ (h.fm hmid)).1
  have hb : b = l := by rw [f1] at e1; injection e1 with e1; injection e1 with e1; injection e1 with e1; exact e1.symm
  subst hb
  have hlt := heap_lt hg
  refine ⟨hg, ?_⟩
  have hlen : (F1 ++ (.pointer (some ⟨b, 0, none⟩), Blk.obj o') :: F2).length = (F1 ++ (.pointer (some ⟨b, 0, none⟩), Blk.obj o) :: F2).length := by simp
  have hfam : ∀ j, (F1 ++ (.pointer (some ⟨b, 0, none⟩), Blk.obj o') :: F2)[j]? = if j = F1.length then some (.pointer (some ⟨b, 0, none⟩), Blk.obj o') else (F1 ++ (.pointer (some ⟨b, 0, none⟩), Blk.obj o) :: F2)[j]? := by
    intro j
    split
    · rename_i hj; subst hj; rw [List.getElem?_append_right (Nat.le_refl _), Nat.sub_self]; rfl
    · rename_i hj
      rcases Nat.lt_or_ge j F1.length with h1 | h1
      · rw [List.getElem?_append_left h1, List.getElem?_append_left h1]
      · rw [List.getElem?_append_right h1, List.getElem?_append_right h1, show j - F1.length = (j - F1.length - 1) + 1 by omega, List.getElem?_cons_succ, List.getElem?_cons_succ]
  have hU : Upto (fun q => q = b) w (w.putObj b o') := ⟨rfl, rfl, rfl, by simp, fun k _ hne => World.putObj_heap_other hne⟩
  have hbx : ∀ x, blk (Z (K + F1.length)) = some x → x = b := fun x hx => by rw [f1] at hx; simpa [blk] using hx.symm
  have hbo : blk (Z (K + F1.length)) = some b := by rw [f1]; rfl
  have hfresh : C.w0.heap.size ≤ b := by
    rcases hs.fresh _ _ b (h.fm hmid) hbo with g | g | ⟨q, g, _⟩
    · omega
    · exact g
    · omega
  have old : ∀ i c, famH K S.HF (F1 ++ (.pointer (some ⟨b, 0, none⟩), Blk.obj o') :: F2) i = some c → (i = K + F1.length ∧ c = .obj o') ∨ (i ≠ K + F1.length ∧ famH K S.HF (F1 ++ (.pointer (some ⟨b, 0, none⟩), Blk.obj o) :: F2) i = some c) := by
    intro i c hi
    rcases famH_some hi with ⟨h1, h2⟩ | ⟨j, p, rfl, h2, h3⟩
    · exact .inr ⟨by omega, by rw [famH_lo h1]; exact h2⟩
    · rw [hfam] at h2
      split at h2
      · rename_i hj; subst hj; injection h2 with h2; subst h2; exact .inl ⟨rfl, h3.symm⟩
      · rename_i hj; exact .inr ⟨by omega, by rw [famH_hi, h2, ← h3]; rfl⟩
  have hB : ∀ k, Own C (famH K S.HF (F1 ++ (.pointer (some ⟨b, 0, none⟩), Blk.obj o') :: F2)) Z k → Own C (famH K S.HF (F1 ++ (.pointer (some ⟨b, 0, none⟩), Blk.obj o) :: F2)) Z k := by
    rintro k (hk | ⟨i, c, hi, hx⟩)
    · exact .inl hk
    · rcases old i c hi with ⟨rfl, _⟩ | ⟨_, h1⟩
      · exact .inr ⟨_, _, h.fm hmid, hx⟩
      · exact .inr ⟨i, c, h1, hx⟩
  have hUM : Upto (Own C (famH K S.HF (F1 ++ (.pointer (some ⟨b, 0, none⟩), Blk.obj o) :: F2)) Z) w (w.putObj b o') := hU.mono fun k _ hk => by subst hk; exact .inr ⟨_, _, h.fm hmid, hbo⟩
  refine ⟨⟨h.le, h.top, h.eid, h.bid, fun j p hj => ?_, hs.size, hs.defers, ?_, hs.m0, fun t => AV.rep_mono hUM (fun k _ hk => hB k hk) _ (fun _ _ => rfl) _ (hs.slots t), fun t i hi => .inl (h.eid t i hi), fun i c hi => ?_, fun i j c d hi hj hij x hx hx2 => ?_, fun i c x hi hx => ?_, hs.lm, fun i hi => by omega⟩, ⟨hUM, fun k _ hk => hB k hk⟩⟩
  · rw [hfam] at hj
    split at hj
    · rename_i e; subst e; injection hj with hj; subst hj; exact ⟨f1, rfl⟩
    · exact h.fam j p hj
  · refine ⟨hs.frame.os, hs.frame.tape, hs.frame.output, by simpa using hs.frame.size, fun k hk hkl => ?_⟩
    exact (World.putObj_heap_other (by omega)).trans (hs.frame.block k hk hkl)
  · rcases old i c hi with ⟨rfl, rfl⟩ | ⟨hne, h1⟩
    · exact ⟨⟨b, f1, World.putObj_heap_same hlt, ho⟩, .inr ⟨by omega, by simp⟩, fun q hq => by simp [Blk.ids] at hq⟩
    · obtain ⟨g1, g2, g3⟩ := hs.holds i c h1
      refine ⟨g1.keep hUM (fun k _ hk => hB k hk) rfl (fun _ _ => rfl) fun x hx => World.putObj_heap_other fun e => ?_, by rw [hlen]; exact g2, by rw [hlen]; exact g3⟩
      exact hs.dist i _ c _ h1 (h.fm hmid) hne x hx (by rw [hbo, e])
  · rcases old i c hi with ⟨rfl, rfl⟩ | ⟨h0, h1⟩ <;> rcases old j d hj with ⟨rfl, rfl⟩ | ⟨h2, h3⟩
    · exact hij rfl
    · exact hs.dist _ j _ d (h.fm hmid) h3 hij x hx hx2
    · exact hs.dist i _ c _ h1 (h.fm hmid) hij x hx hx2
    · exact hs.dist i j c d h1 h3 hij x hx hx2
  · rcases old i c hi with ⟨rfl, rfl⟩ | ⟨h0, h1⟩
    · exact hs.fresh _ _ x (h.fm hmid) hx
    · exact hs.fresh i c x h1 hx
/-- A new object. -/
theorem SimK.newobj (hl : C.ln = ⟨0, 0⟩) {o : Obj} (h : SimK C S F a w Z K) (ho : ∀ cs T fr, o ≠ .cells cs T fr) :
    ∃ Z', SimK C S (F ++ [(.pointer (some ⟨w.heap.size, 0, none⟩), .obj o)]) a (w.alloc o) Z' K ∧ (∀ i, i < S.nx → Z' i = Z i) ∧ Kp (Own C (famH K S.HF F) Z) (Own C (famH K S.HF (F ++ [(.pointer (some ⟨w.heap.size, 0, none⟩), .obj o)])) Z') w (w.alloc o) := by
  have hs := h.sim
  have hle : S.nx ≤ K := h.le
  have hnl : C.nl = 0 := by unfold Cx.nl; rw [hl]
  have hm0 : C.ln.m = 0 := by rw [hl]
  have hU : Upto (Own C (famH K S.HF F) Z) w (w.alloc o) := Upto.alloc w o
  let Z' : Nat → Value := fun i => if i = K + F.length then .pointer (some ⟨w.heap.size, 0, none⟩) else Z i
  have z1 : Z' (K + F.length) = .pointer (some ⟨w.heap.size, 0, none⟩) := if_pos rfl
  have z2 : ∀ i, i ≠ K + F.length → Z' i = Z i := fun i hi => if_neg hi
  have old : ∀ i c, famH K S.HF (F ++ [(.pointer (some ⟨w.heap.size, 0, none⟩), Blk.obj o)]) i = some c → (i = K + F.length ∧ c = .obj o) ∨ (i ≠ K + F.length ∧ famH K S.HF F i = some c) := by
    intro i c hi
    rcases famH_some hi with ⟨h1, h2⟩ | ⟨j, p, rfl, h2, h3⟩
    · exact .inr ⟨by omega, by rw [famH_lo h1]; exact h2⟩
    · rcases Nat.lt_or_ge j F.length with hj | hj
      · rw [List.getElem?_append_left hj] at h2
        exact .inr ⟨by omega, by rw [famH_hi, h2, ← h3]; rfl⟩
      · rw [List.getElem?_append_right hj] at h2
        have hj0 : j = F.length := by
          rcases Nat.lt_or_ge (j - F.length) 1 with h | h
          · omega
          · rw [List.getElem?_eq_none (by simpa using h)] at h2; cases h2
        subst hj0
        rw [Nat.sub_self] at h2
        injection h2 with h2
        subst h2
        exact .inl ⟨rfl, h3.symm⟩
  have hB : ∀ k, k < w.heap.size → Own C (famH K S.HF (F ++ [(.pointer (some ⟨w.heap.size, 0, none⟩), Blk.obj o)])) Z' k → Own C (famH K S.HF F) Z k := by
    rintro k hkl (hk | ⟨i, c, hi, hx⟩)
    · exact .inl hk
    · rcases old i c hi with ⟨rfl, _⟩ | ⟨hne, h1⟩
      · rw [z1] at hx; simp [blk] at hx; omega
      · rw [z2 i hne] at hx; exact .inr ⟨i, c, h1, hx⟩
  refine ⟨Z', ⟨h.le, h.top, h.eid, h.bid, fun j p hj => ?_, hs.size, hs.defers, hs.frame.trans ((Upto.alloc w o)), hs.m0, fun t => AV.rep_mono hU hB _ (fun i hi => z2 i (by have := h.eid t i hi; omega)) _ (hs.slots t), fun t i hi => .inl (h.eid t i hi), fun i c hi => ?_, fun i j c d hi hj hij x hx hx2 => ?_, fun i c x hi hx => ?_, hs.lm, fun i hi => by omega⟩, fun i hi => z2 i (by omega), ⟨hU, hB⟩⟩
  · rcases Nat.lt_or_ge j F.length with hjl | hjl
    · rw [List.getElem?_append_left hjl] at hj
      obtain ⟨g1, g2⟩ := h.fam j p hj
      exact ⟨by rw [z2 _ (by omega)]; exact g1, g2⟩
    · rw [List.getElem?_append_right hjl] at hj
      have hj0 : j = F.length := by
        rcases Nat.lt_or_ge (j - F.length) 1 with h | h
        · omega
        · rw [List.getElem?_eq_none (by simpa using h)] at hj; cases hj
      subst hj0
      rw [Nat.sub_self] at hj
      injection hj with hj
      subst hj
      exact ⟨z1, rfl⟩
  · rcases old i c hi with ⟨rfl, rfl⟩ | ⟨hne, h1⟩
    · exact ⟨⟨w.heap.size, z1, heap_new w o, ho⟩, .inr ⟨by omega, by simp⟩, fun q hq => by simp [Blk.ids] at hq⟩
    · obtain ⟨g1, g2, g3⟩ := hs.holds i c h1
      refine ⟨?_, g2.imp id (fun g => ⟨g.1, by rw [List.length_append]; omega⟩), fun q hq => (g3 q hq).imp id (fun g => ⟨g.1, by rw [List.length_append]; omega⟩)⟩
      have hids : ∀ q ∈ c.ids, Z' q = Z q := fun q hq => z2 q (by
        rcases famH_some h1 with ⟨_, h2⟩ | ⟨j, p, rfl, h2, h3⟩
        · have := h.bid i c h2 q hq; omega
        · subst h3; rw [(h.fam j p h2).2] at hq; cases hq)
      exact g1.keep hU hB (z2 i hne) hids fun x hx => Below.heap_alloc w o x (g1.lt hx)
  · rcases old i c hi with ⟨rfl, rfl⟩ | ⟨h0, h1⟩ <;> rcases old j d hj with ⟨rfl, rfl⟩ | ⟨h2, h3⟩
    · exact hij rfl
    · rw [z1] at hx; rw [z2 j h2] at hx2
      simp [blk] at hx
      have := (hs.holds j d h3).1.lt hx2; omega
    · rw [z1] at hx2; rw [z2 i h0] at hx
      simp [blk] at hx2
      have := (hs.holds i c h1).1.lt hx; omega
    · rw [z2 i h0] at hx; rw [z2 j h2] at hx2
      exact hs.dist i j c d h1 h3 hij x hx hx2
  · rcases old i c hi with ⟨rfl, rfl⟩ | ⟨h0, h1⟩
    · rw [z1] at hx
      simp [blk] at hx
      exact .inr (.inl (by have := hs.frame.size; omega))
    · rw [z2 i h0] at hx
      exact hs.fresh i c x h1 hx
/-- The same blocks beside other slots (another activation's). -/
theorem SimK.reenv (hl : C.ln = ⟨0, 0⟩) (h : SimK C S F a w Z K) {E : List (Nat × AV)} {d : List Deferred} {a' : Act} (hsz : a'.tmps.size = C.N) (hd : a'.defers = d) (hE : ∀ t, ∀ i ∈ (get E t).ids, i < S.nx) (hr : ∀ t, AV.rep Z (Own C (famH K S.HF F) Z) w (get E t) (a'.tmps.getD t undef)) : SimK { C with df := d } ⟨E, S.H, S.nx⟩ F a' w Z K :=
  ⟨h.le, h.top, hE, h.bid, h.fam, hsz, hd, h.sim.frame, h.sim.m0, hr, fun t i hi => .inl (hE t i hi), h.sim.holds, h.sim.dist, h.sim.fresh, h.sim.lm, fun i hi => h.sim.zl i hi⟩
theorem SimK.frameKp (hl : C.ln = ⟨0, 0⟩) (hfull : ∀ i, i < S.nx → ∃ b, S.HF i = some b) (h : SimK C S F a w Z K) :
    ∃ C1 : Cx, C1.P = C.P ∧ C1.N = C.N ∧ C1.ln = ⟨S.nx, S.nx⟩ ∧ Sim C1 S a w ∧ ∀ S' a' w', Sim C1 S' a' w' → ∃ Z' K', SimK C S' F a' w' Z' K' ∧ S.nx ≤ S'.nx ∧ (∀ i, i < S.nx → Z' i = Z i) ∧ Kp (Own C (famH K S.HF F) Z) (Own C (famH K' S'.HF F) Z') w w' := by
  obtain ⟨C1, e1, e2, e3, g1, g2⟩ := h.frame hl hfull
  refine ⟨C1, e1, e2, e3, g1, fun S' a' w' hs => ?_⟩
  obtain ⟨Z', K', h1, h2, h3, h4, h5⟩ := g2 S' a' w' hs
  exact ⟨Z', K', h1, h2, h3, ⟨h4, h5⟩⟩
end
end Go.Ab
