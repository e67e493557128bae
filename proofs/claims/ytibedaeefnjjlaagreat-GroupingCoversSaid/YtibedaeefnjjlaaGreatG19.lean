/- Texts of the second layer in one: Ai3 Ai4 Ai6. -/
import Derived.Test.YtibedaeefnjjlaaGreatG18
import Derived.RangeFuncNested
import Derived.RangeFuncBound
/- The second layer: a range over a function that gives values. No conditions. --ext6 -/
namespace Go.Ab
open Go.RowKit
set_option linter.unusedVariables false
set_option linter.unusedSimpArgs false

theorem SimK.drop {C : Cx} {S : St} {F G : Fam} {a : Act} {w : World} {Z : Nat → Value} {K : Nat} (hl : C.ln = ⟨0, 0⟩) (h : SimK C S (F ++ G) a w Z K) : SimK C S F a w Z K := by
  have hs := h.sim
  have hnl : C.nl = 0 := by unfold Cx.nl; rw [hl]
  have old : ∀ i c, famH K S.HF F i = some c → famH K S.HF (F ++ G) i = some c := by
    intro i c hi
    rcases famH_some hi with ⟨h1, h2⟩ | ⟨j, p, rfl, h2, h3⟩
    · rw [famH_lo h1]; exact h2
    · rw [famH_hi, List.getElem?_append_left (len_of h2), h2, ← h3]; rfl
  have lo : ∀ i c, famH K S.HF F i = some c → i < S.nx ∨ (K ≤ i ∧ i < K + F.length) := by
    intro i c hi
    rcases famH_some hi with ⟨h1, h2⟩ | ⟨j, p, rfl, h2, h3⟩
    · exact .inl (h.hf h2).1
    · exact .inr ⟨by omega, by have := len_of h2; omega⟩
  have hB : ∀ k, k < w.heap.size → Own C (famH K S.HF F) Z k → Own C (famH K S.HF (F ++ G)) Z k := by
    rintro k _ (hk | ⟨i, c, hi, hx⟩)
    · exact .inl hk
    · exact .inr ⟨i, c, old i c hi, hx⟩
  refine ⟨h.le, h.top, h.eid, h.bid, fun j p hj => h.fam j p (by rw [List.getElem?_append_left (len_of hj)]; exact hj), hs.size, hs.defers, hs.frame, hs.m0, fun t => AV.rep_mono (Upto.refl _) hB _ (fun _ _ => rfl) _ (hs.slots t), fun t i hi => .inl (h.eid t i hi), fun i c hi => ⟨((hs.holds i c (old i c hi)).1).anti hB, lo i c hi, fun q hq => ?_⟩,
    fun i j c d hi hj => hs.dist i j c d (old i c hi) (old j d hj), fun i c x hi => hs.fresh i c x (old i c hi), hs.lm, fun i hi => by omega⟩
  rcases famH_some hi with ⟨h1, h2⟩ | ⟨j, p, rfl, h2, rfl⟩
  · exact .inl (h.bid i c h2 q hq)
  · rw [(h.fam j p (by rw [List.getElem?_append_left (len_of h2)]; exact h2)).2] at hq; cases hq

/-- An iterator that hands out the values vs, in whatever world follows W0. -/
def Iter (P : Program) (gf : Nat) (lb : Array Value) (vs : List Value) (B0 : Nat → Prop) (W0 : World) : Prop :=
  ∀ (n l : Nat) (J : Nat → World → Prop) (W : World), 1 ≤ n →
    (∀ k A A', J k A → Below A.heap.size A A' → J k A') →
    (∀ k A, J k A → ∃ B, Kp B0 B W0 A ∧ ∀ x, B x → x < A.heap.size) →
    (∀ (k : Nat) (v : Value) A, J k A → vs[k]? = some v → YieldAt Fence.wide (n - 1) P l #[v] A fun e A' => e = .returned (.bool true) ∧ J (k + 1) A') →
    J 0 W → CallsIn Fence.wide n P gf (#[.func (.yield l) #[] #[]] ++ lb) W fun e W' => (∃ v, e = .returned v) ∧ J vs.length W'

theorem own_lt {C : Cx} {S : St} {F : Fam} {a : Act} {w : World} {Z : Nat → Value} {K : Nat} (h : SimK C S F a w Z K) : ∀ x, Own C (famH K S.HF F) Z x → x < w.heap.size := by
  rintro x (hx | ⟨i, c, hi, hx⟩)
  · exact Nat.lt_of_lt_of_le (h.sim.m0 x hx) h.sim.frame.size
  · exact (h.sim.holds i c hi).1.lt hx
theorem full_of {S : St} (h : fullB S = true) : ∀ i, i < S.nx → ∃ b, S.HF i = some b := fun i hi => Option.isSome_iff_exists.1 (List.all_eq_true.1 h i (List.mem_range.2 hi))
theorem range_it {C : Cx} {P : Program} {n nx : Nat} (nf : Nat) {E : List (Nat × AV)} {H : Nat → List (Nat × Option Blk)} {F : Fam} {a : Act} {w : World} {Z : Nat → Value} {K : Nat} {Q : Exit → Act → World → Prop} {g : Operand} {p : Tmp} {assign body : Code} {gf : Nat} {lb : Array Value} {vs : List Value} {avs : List AV}
    (hP : C.P = P) (hl : C.ln = ⟨0, 0⟩) (hd : C.df = []) (h : SimK C ⟨E, H 0, nx⟩ F a w Z K) (hp : p < C.N) (hn : 2 ≤ n) (hnf : nf ≤ nx) (hE : ∀ t, ∀ i ∈ (get E t).ids, i < nf)
    (hg : a.eval g = .func (.func gf) #[] lb) (eg : ∀ args w, (callFunc gf args).run P w = .ok (.enter gf args) w)
    (hit : Iter P gf lb vs (Own C (famH K (St.HF ⟨E, H 0, nx⟩) F) Z) w)
    (hav : ∀ (k : Nat) (v : Value), vs[k]? = some v → ∃ c, avs[k]? = some c ∧ c.ids = [] ∧ AV.rep Z (Own C (famH K (St.HF ⟨E, H 0, nx⟩) F) Z) w c v)
    (hf0 : ∀ k : Nat, k ≤ vs.length → fullB ⟨E, H k, nx⟩ = true)
    (hround : ∀ (k : Nat) (c : AV), k < vs.length → avs[k]? = some c → ∀ F m, FOk P F m → awpIn F m P ⟨nx, nx⟩ C.N assign (fun e S1 => e = .normal ∧ fullB S1 = true ∧
      ∀ F m, FOk P F m → awpIn F m P ⟨S1.nx, S1.nx⟩ C.N body (fun e S2 => e = .normal ∧ ∃ lr, numsOk ⟨0, 0⟩ ⟨[], H (k + 1), nx⟩ (rho lr) [] = true ∧ hLe S2 (rho lr) [] (H (k + 1)) ∧ ∀ i, i < nf → rho lr i = i) S1) ⟨(p, c) :: E, H k, nx⟩)
    (hdone : ∀ D Z' K' W', SimK { C with df := [{ target := .collected D, args := #[] }] } ⟨E, H vs.length, nx⟩ (F ++ [(.pointer (some ⟨D, 0, none⟩), .obj (.deferred (some [])))]) { a with defers := [{ target := .collected D, args := #[] }] } W' Z' K' → Q .normal { a with defers := [{ target := .collected D, args := #[] }] } W') :
    (Code.rangeFunc g #[p] assign body).wpIn Fence.wide n P Q a w := by
  have hda : a.defers = [] := h.sim.defers.trans hd
  have eC : { C with df := [] } = C := by
    cases C; simp only at hd; subst hd; rfl
  refine wpIn_rangeFunc fun fn hfn => ?_
  let R : LoopState → Loop := fun st => { state := st, pending := none, fn, tmps := a.tmps, params := #[p], assign, body, defers := w.heap.size }
  let V := (w.alloc (.deferred (some []))).alloc (.loop (R .ready))
  have sizeA : (w.alloc (.deferred (some []))).heap.size = w.heap.size + 1 := by simp
  let d1 : Value × Blk := (.pointer (some ⟨w.heap.size, 0, none⟩), .obj (.deferred (some [])))
  let r1 : LoopState → Value × Blk := fun st => (.pointer (some ⟨w.heap.size + 1, 0, none⟩), .obj (.loop (R st)))
  obtain ⟨Z1, h1, z1, k1⟩ := h.newobj hl (o := .deferred (some [])) (fun _ _ _ => Obj.noConfusion)
  obtain ⟨Z2, h2, z2, k2⟩ := h1.newobj hl (o := .loop (R .ready)) (fun _ _ _ => Obj.noConfusion)
  rw [sizeA] at h2 k2
  let B0 := Own C (famH K (St.HF ⟨E, H 0, nx⟩) F) Z
  let J : Nat → World → Prop := fun k W => ∃ Z' K', SimK C ⟨E, H k, nx⟩ ((F ++ [d1]) ++ (r1 .ready :: [])) a W Z' K' ∧ (∀ i, i < nf → Z' i = Z i) ∧ Kp B0 (Own C (famH K' (St.HF ⟨E, H k, nx⟩) ((F ++ [d1]) ++ (r1 .ready :: []))) Z') w W
  have j0 : J 0 V := ⟨Z2, K, h2, fun i hi => (z2 i (Nat.lt_of_lt_of_le hi hnf)).trans (z1 i (Nat.lt_of_lt_of_le hi hnf)), k1.trans k2⟩
  refine ⟨w.heap.size + 1, [{ target := .collected w.heap.size, args := #[] }], V, { target := .fn (.func gf) lb, args := #[.func (.yield (w.heap.size + 1)) #[] #[]] }, V, gf, #[.func (.yield (w.heap.size + 1)) #[] #[]] ++ lb, V, run_enterLoop_outer _ _ _ _ _, ?_, fun _ _ => trivial, ?_, (fun h => nomatch h), ?_⟩
  · simp only [resolve, hg]; simp [go_sem]
  · simp [invoke, go_sem, eg]
  refine (hit (n - 1) (w.heap.size + 1) J V (by omega) ?_ ?_ ?_ j0).mono ?_
  · rintro k A A' ⟨Z', K', g1, g2, g3⟩ hb
    exact ⟨Z', K', g1.world hb, g2, g3.trans (Kp.below hb)⟩
  · rintro k A ⟨Z', K', g1, g2, g3⟩
    exact ⟨_, g3, own_lt g1⟩
  · -- a round
    rintro k v A ⟨Z', K', g1, g2, g3⟩ hv
    have hk : k < vs.length := len_of hv
    obtain ⟨c, hc, hci, hcr⟩ := hav k v hv
    have hcr' : AV.rep Z' (Own C (famH K' (St.HF ⟨E, H k, nx⟩) ((F ++ [d1]) ++ (r1 .ready :: []))) Z') A c v := g3.rep (fun i hi => by rw [hci] at hi; cases hi) hcr
    have hrec : A.heap[w.heap.size + 1]? = some (.loop (R .ready)) := (g1.reobj hl (o' := .loop (R .busy)) (fun _ _ _ => Obj.noConfusion)).1
    refine ⟨fn, _, assign, body, run_yield (P := P) (args := #[v]) hrec rfl, roundIn_of_wpIn hfn ?_⟩
    have e1 : (((R .ready).params.zip #[v]).foldl (fun tmps (t, a) => tmps.setIfInBounds t a) (R .ready).tmps) = a.tmps.setIfInBounds p v := by simp [R]
    rw [e1]
    have s1 : SimK C ⟨(p, c) :: E, H k, nx⟩ ((F ++ [d1]) ++ (r1 .ready :: [])) { tmps := a.tmps.setIfInBounds p v, defers := [] } A Z' K' := by
      have := g1.reenv hl (E := (p, c) :: E) (d := []) (a' := { tmps := a.tmps.setIfInBounds p v, defers := [] }) (by simpa using g1.sim.size) rfl (fun t i hi => ?_) (fun t => ?_)
      · rw [eC] at this; exact this
      · rw [get] at hi
        cases hb : Nat.beq p t with
        | true => rw [hb, cond_true, hci] at hi; cases hi
        | false => rw [hb, cond_false] at hi; exact g1.eid t i hi
      · rw [get]
        cases hb : Nat.beq p t with
        | true =>
          have := Nat.eq_of_beq_eq_true hb; subst this
          rw [cond_true]
          have : (a.tmps.setIfInBounds p v).getD p undef = v := by
            rw [Array.getD_eq_getD_getElem?, Array.getElem?_setIfInBounds_self_of_lt (by rw [g1.sim.size]; exact hp)]; rfl
          rw [this]; exact hcr'
        | false =>
          rw [cond_false]
          have hne : p ≠ t := fun e => by subst e; simp at hb
          have : (a.tmps.setIfInBounds p v).getD t undef = a.tmps.getD t undef := by
            rw [Array.getD_eq_getD_getElem?, Array.getD_eq_getD_getElem?, Array.getElem?_setIfInBounds_ne hne]
          rw [this]; exact g1.sim.slots t
    obtain ⟨C1, p1, p2, p3, q1, q2⟩ := s1.frameKp hl (full_of (S := ⟨(p, c) :: E, H k, nx⟩) (hf0 k (by omega)))
    refine wpIn_mono (hround k c hk hc _ _ (fok_round P (w.heap.size + 1) (n - 1 - 1)) C1 (p1.trans hP) p3 p2 _ _ q1) ?_
    rintro e a2 W2 ⟨S1, ⟨rfl, f1, hbody⟩, hS1⟩
    obtain ⟨Z3, K3, s3, n3, z3, k3⟩ := q2 S1 a2 W2 hS1
    obtain ⟨hrec3, s4, k4⟩ := s3.reobj hl (o' := .loop (R .busy)) (fun _ _ _ => Obj.noConfusion)
    refine ⟨_, run_beginRound (r := R .ready) hrec3 rfl, ?_⟩
    obtain ⟨C2, p4, p5, p6, q3, q4⟩ := s4.frameKp hl (full_of f1)
    refine wpIn_mono (hbody _ _ (fok_round P (w.heap.size + 1) (n - 1 - 1)) C2 (p4.trans hP) p6 p5 _ _ q3) ?_
    rintro e a3 W3 ⟨S2, ⟨rfl, lr, hnum, hle, hlr⟩, hS2⟩
    obtain ⟨Z4, K4, s5, n5, z5, k5⟩ := q4 S2 a3 W3 hS2
    obtain ⟨hrec5, s6, k6⟩ := s5.reobj hl (o' := .loop (R .ready)) (fun _ _ _ => Obj.noConfusion)
    refine ⟨_, _, run_endRound (r := R .busy) none hrec5, rfl, ?_⟩
    have hnx : nx ≤ S1.nx := n3
    obtain ⟨Z5, s7, z7, b7⟩ := s6.weaken hl ⟨[], H (k + 1), nx⟩ lr [] (by rw [hl]; exact hnum) trivial hle
    have zz : ∀ i, i < nf → Z5 i = Z i := fun i hi => by rw [z7 i (Nat.lt_of_lt_of_le hi hnf), hlr i hi, z5 i (by omega), z3 i (Nat.lt_of_lt_of_le hi hnf), g2 i hi]
    have kk := ((((g3.trans k3).trans k4).trans k5).trans k6).trans (⟨Upto.refl _, b7⟩ : Kp _ _ _ _)
    refine ⟨Z5, nx, ?_, zz, kk⟩
    have := s7.reenv hl (E := E) (d := []) (a' := a) g1.sim.size hda (fun t i hi => g1.eid t i hi) (fun t => kk.rep (fun i hi => zz i (hE t i hi)) (h.sim.slots t))
    rw [eC] at this
    exact this
  · rintro e W2 ⟨⟨v, rfl⟩, Z', K', g1, g2, g3⟩
    obtain ⟨hrec, s2, k2⟩ := g1.reobj hl (o' := .loop (R .exhausted)) (fun _ _ _ => Obj.noConfusion)
    refine ⟨none, _, run_endLoop (P := P) (r := R .ready) hrec (fun h => by cases h), ?_⟩
    rw [hda, List.append_nil]
    refine hdone w.heap.size Z' K' _ ?_
    exact (s2.drop hl).reenv hl (E := E) (d := [{ target := .collected w.heap.size, args := #[] }]) (a' := { a with defers := [{ target := .collected w.heap.size, args := #[] }] }) g1.sim.size rfl (fun t i hi => g1.eid t i hi) (fun t => (s2.drop hl).sim.slots t)
end Go.Ab

/- The second layer: pieces of code in a raw frame; the call of a loop's body. No conditions. --ext6 -/
namespace Go.Ab
open Go.RowKit
set_option linter.unusedVariables false
set_option linter.unusedSimpArgs false

theorem reps_env {Z : Nat → Value} {B : Nat → Prop} {w : World} {a : Act} {E : List (Nat × AV)} (h : ∀ p ∈ E, AV.rep Z B w p.2 (a.tmps.getD p.1 undef)) (t : Nat) : AV.rep Z B w (get E t) (a.tmps.getD t undef) := by
  rcases get_mem (l := E) (t := t) with e | e
  · rw [e, AV.rep]; trivial
  · exact h _ e
theorem ids_env {E : List (Nat × AV)} (h : ∀ p ∈ E, p.2.ids = []) (t : Nat) : (get E t).ids = [] := by
  rcases get_mem (l := E) (t := t) with e | e
  · rw [e]; rfl
  · exact h _ e
theorem sim_ro {P : Program} {N : Nat} {B : Nat → Prop} {Z : Nat → Value} {w : World} {a : Act} {E : List (Nat × AV)} (hB : ∀ x, B x → x < w.heap.size) (hs : a.tmps.size = N) (hd : a.defers = []) (hE : ∀ p ∈ E, p.2.ids = []) (hr : ∀ p ∈ E, AV.rep Z B w p.2 (a.tmps.getD p.1 undef)) : Sim ⟨P, w, B, Z, ⟨0, 0⟩, N, []⟩ ⟨E, [], 0⟩ a w :=
  ⟨Z, hs, hd, Upto.refl _, hB, fun t => AV.rep_mono (Upto.refl _) (fun k _ hk => by
    rcases hk with hk | ⟨i, b, hi, _⟩
    · exact hk
    · cases hi) _ (fun _ _ => rfl) _ (reps_env hr t), fun t i hi => by
      have hi' : i ∈ (get E t).ids := hi
      exact absurd hi' (by rw [ids_env hE t]; exact List.not_mem_nil), fun i b hi => (nomatch hi), fun i j b c hi => (nomatch hi), fun i b x hi => (nomatch hi), Nat.le_refl _, fun i hi => absurd hi (Nat.not_lt_zero _)⟩
theorem sim_below {P : Program} {N : Nat} {B : Nat → Prop} {Z : Nat → Value} {w w' : World} {a : Act} {S : St} (h : Sim ⟨P, w, B, Z, ⟨0, 0⟩, N, []⟩ S a w') : Below w.heap.size w w' := by
  obtain ⟨Z, h⟩ := h
  exact ⟨h.frame.os, h.frame.tape, h.frame.output, h.frame.size, fun k hk => h.frame.block k hk fun ⟨i, hi, _⟩ => absurd hi (Nat.not_lt_zero _)⟩
theorem sim_v {C : Cx} {S : St} {a : Act} {w : World} {t : Nat} {v : Value} (h : Sim C S a w) (e : get S.env t = .r (.v v)) : a.tmps.getD t undef = v := by
  obtain ⟨Z, h⟩ := h
  have := h.slots t
  unfold St.envF at this
  rw [e, AV.rep, RV.rep] at this
  exact this
theorem reps_vs {Z : Nat → Value} {B : Nat → Prop} {w : World} : ∀ (vs us : List Value), AV.reps Z B w (vs.map fun v => AV.r (.v v)) us → us = vs
  | [], us, h => by rw [List.map_nil, AV.reps] at h; exact h
  | v :: vs, us, h => by
    rw [List.map_cons, AV.reps] at h
    obtain ⟨u, us', rfl, h1, h2⟩ := h
    rw [AV.rep, RV.rep] at h1
    subst h1
    rw [reps_vs vs us' h2]
theorem sim_ag {C : Cx} {S : St} {a : Act} {w : World} {t : Nat} {vs : List Value} (h : Sim C S a w) (e : get S.env t = .ag (vs.map fun v => AV.r (.v v))) : a.tmps.getD t undef = .agg vs.toArray := by
  obtain ⟨Z, h⟩ := h
  have := h.slots t
  unfold St.envF at this
  rw [e, AV.rep] at this
  obtain ⟨us, e1, h1⟩ := this
  rw [e1]
  congr 1
  rw [← reps_vs vs us.toList h1, Array.toArray_toList]
theorem put_ne {a : Act} {d : Option Tmp} {v : Value} {t : Nat} (h : d ≠ some t) : (a.put d v).tmps.getD t undef = a.tmps.getD t undef := by
  cases d with
  | none => rfl
  | some k =>
    show (a.tmps.setIfInBounds k v).getD t undef = _
    have hne : k ≠ t := fun e => h (by rw [e])
    rw [Array.getD_eq_getD_getElem?, Array.getD_eq_getD_getElem?, Array.getElem?_setIfInBounds_ne hne]
theorem put_eq {a : Act} {v : Value} {t : Nat} (h : t < a.tmps.size) : (a.put (some t) v).tmps.getD t undef = v := by
  show (a.tmps.setIfInBounds t v).getD t undef = _
  rw [Array.getD_eq_getD_getElem?, Array.getElem?_setIfInBounds_self_of_lt h]; rfl
section
variable {F : Fence} {n : Nat} {P : Program}
theorem SimF.operIn2 {N : Nat} {ops : Array Oper} {o : Oper} {C : Cx} {D : Nat → Prop} {env : Nat → AV} {H : Nat → Option Blk} {Z : Nat → Value} {a : Act} {w : World} {k : Nat} {sp : Sp} {next : Act → World → Prop} {Q : Exit → Act → World → Prop} (hF : FOk P F n)
    (S : SimF C D env H Z a w) (hP : C.P = P) (hN : C.N = N) (hdst : ∀ x, o.dst = some x → x < N) (hw : Wanted ops env o sp.run) (hok : sp.run = true → OpOk P o env k sp) (hskip : sp.run = false → sp = skipSp) (hsp : SpOk C.ln D H k sp)
    (hn : ∀ Z' v w', SimF C (fun i => D i ∨ (k ≤ i ∧ i < k + sp.frs.length)) (updE o.dst sp.out env) (updH k sp H) Z' (a.put o.dst v) w' → next (a.put o.dst v) w') :
    if Region.wanted o (yielded ops a.tmps) then o.wpIn F n P a w next Q else (∀ f, o.about P w a.eval = some f → F.fn f) ∧ next (a.put o.dst undef) w := by
  rw [wanted_of S hw]
  cases hr : sp.run with
  | true =>
    rw [if_pos rfl]
    refine (hok hr a w Z (Own C H Z) S.m_lt (fun x _ => S.ev x) (fun i b hb => ⟨(S.holds i b (hsp.rd i b hb)).1, fun x hx => .inr ⟨i, b, hsp.rd i b hb, hx⟩⟩) (fun i j b c hb hc hij x hx => S.dist i j b c (hsp.rd i b hb) (hsp.rd j c hc) hij x hx)).wpIn hF fun v w' hA => ?_
    obtain ⟨Z', S'⟩ := S.step hsp (d := o.dst) (fun x hx => hN ▸ hdst x hx) hA
    exact hn _ _ _ S'
  | false =>
    rw [if_neg (by simp)]
    have e := hskip hr
    obtain ⟨Z', S'⟩ := S.step hsp (d := o.dst) (v := undef) (w' := w) (fun x hx => hN ▸ hdst x hx) ⟨Z, by
      subst e
      exact ⟨fun _ _ => rfl, by simp only [skipSp, AV.rep, RV.rep], fun i b h => by simp [skipSp] at h, fun j b h => by simp [skipSp] at h, fun j j' x h => by simp [skipSp] at h, fun j x h => by simp [skipSp] at h, Upto.refl _⟩⟩
    exact ⟨fun f _ => hF.fn f, hn _ _ _ S'⟩
/-- The first operations of a region: what they do not write keeps its value. -/
theorem list_use {ops : Array Oper} {chk : List (Nat × Sp) → Bool} {Q0 : St → Prop} {Q' : Exit → Act → World → Prop} {C : Cx} (hF : FOk P F n) (hP : C.P = P) {rest : List Oper} :
    ∀ (l : List Oper) (S : St) (tr : List (Nat × Sp)) (a : Act) (w : World), Sim C S a w → wpA P C.ln C.N ops chk Q0 l S tr →
      (∀ S' a' w', Q0 S' → Sim C S' a' w' → (∀ t, (∀ o ∈ l, o.dst ≠ some t) → a'.tmps.getD t undef = a.tmps.getD t undef) → wpListIn F n P ops Q' rest a' w') → wpListIn F n P ops Q' (l ++ rest) a w
  | [], S, tr, a, w, hs, h, hQ => hQ S a w h.2 hs fun _ _ => rfl
  | o :: l, S, tr, a, w, ⟨Z, hs⟩, ⟨sp, h1, h2⟩, hQ => by
    rw [List.cons_append]
    unfold wpListIn
    have hsp := h1.sp (fun i => i < S.nx) hs.ids (fun i b hb => ⟨(hs.holds i b hb).2.1, (hs.holds i b hb).2.2⟩) (fun i hi => .inl hi)
    refine hs.operIn2 hF (k := S.nx) (sp := sp) hP rfl h1.dst h1.want h1.ok h1.skip hsp fun Z' v w' hs' => ?_
    refine list_use hF hP l (S.app o.dst sp) _ _ w' ⟨Z', ?_⟩ h2 fun S' a' w'' q1 q2 q3 => hQ S' a' w'' q1 q2 fun t ht => (q3 t fun o ho => ht o (List.mem_cons_of_mem _ ho)).trans (put_ne (ht o (List.mem_cons_self ..)))
    rw [app_env, app_H]
    exact hs'.monoD fun i hi => by
      show i < S.nx + sp.frs.length
      have : ∀ i, i < S.nx ∨ (S.nx ≤ i ∧ i < S.nx + sp.frs.length) → i < S.nx + sp.frs.length := by intro i h; omega
      exact this i hi
theorem region_use {C : Cx} {S : St} {a : Act} {w : World} {id : Nat} {l : List Oper} {Q : Exit → Act → World → Prop} (Q0 : St → Prop) (hF : FOk P F n) (hP : C.P = P) (hs : Sim C S a w) (h : wpA P C.ln C.N l.toArray (fun _ => true) Q0 l S [])
    (k : ∀ S' a' w', Q0 S' → Sim C S' a' w' → (∀ t, (∀ o ∈ l, o.dst ≠ some t) → a'.tmps.getD t undef = a.tmps.getD t undef) → Q .normal a' w') : (Code.region id l.toArray false).wpIn F n P Q a w := by
  refine wpIn_region_lit ?_
  have := list_use (rest := []) (Q' := Q) hF hP l S [] a w hs h k
  rwa [List.append_nil] at this
theorem list_end {C : Cx} {S : St} {a : Act} {w : World} {ops : Array Oper} {l : List Oper} {Q : Exit → Act → World → Prop} (Q0 : St → Prop) (hF : FOk P F n) (hP : C.P = P) (hs : Sim C S a w) (h : wpA P C.ln C.N ops (fun _ => true) Q0 l S [])
    (k : ∀ S' a' w', Q0 S' → Sim C S' a' w' → (∀ t, (∀ o ∈ l, o.dst ≠ some t) → a'.tmps.getD t undef = a.tmps.getD t undef) → Q .normal a' w') : wpListIn F n P ops Q l a w := by
  have := list_use (rest := []) (Q' := Q) hF hP l S [] a w hs h k
  rwa [List.append_nil] at this
theorem sim_size {C : Cx} {S : St} {a : Act} {w : World} (h : Sim C S a w) : a.tmps.size = C.N ∧ a.defers = C.df := by
  obtain ⟨Z, h⟩ := h
  exact ⟨h.size, h.defers⟩
/-- The call of a loop's body. -/
theorem op_yield {ops : Array Oper} {rest : List Oper} {Q' : Exit → Act → World → Prop} {a : Act} {w : World} {o : Oper} {f x : Operand} {l : Nat} {T : TypeId} {v : Value} {R : Ending → World → Prop} (hg : o.guard = none) (hop : o.op = Op.call { callee := .value f, args := #[x], argTypes := #[T] })
    (hf : a.eval f = .func (.yield l) #[] #[]) (hx : a.eval x = v) (hdep : F.depth.isSome = true → 1 ≤ n) (hfn : ∀ f, F.fn f) (hY : YieldAt F (n - 1) P l #[v] w R)
    (k : ∀ e w', R e w' → ∃ u, e = .returned u ∧ wpListIn F n P ops Q' rest (a.put o.dst u) w') : wpListIn F n P ops Q' (o :: rest) a w := by
  refine wpListIn_plain hg fun K hK' => ?_
  obtain ⟨fn, tmps, assign, body, hrun, hround⟩ := hY
  unfold Oper.wpIn
  refine ⟨fun f _ => hfn f, ?_⟩
  rw [Oper.semAt_plain F _ _ (by rw [hop]; intro c hc'; cases hc')]
  have e : (execOp a.eval o).run P w = .ok (.round l fn tmps assign body) w := by
    simp [execOp, hop, resolve, invoke, Deferred.ofValue, hf, hx, hrun, Result.andThen]
  rw [e, Oper.uponIn_round]
  refine ⟨hdep, hround.mono fun e w' hr => ?_⟩
  obtain ⟨u, rfl, hk⟩ := k e w' hr
  exact hK' _ _ hk
/-- A region in the text's order, cut in two: between the parts less is known. -/
theorem awp_text2 {L : Ln} {N id : Nat} {Q : Exit → St → Prop} {S : St} (T : St) {l1 l2 : List Oper} (h1 : wpA P L N (l1 ++ l2).toArray (fun _ => true) (fun S' => Le L S' T) l1 S []) (h2 : wpA P L N (l1 ++ l2).toArray (fun _ => true) (Q .normal) l2 T []) : awp P L N (.region id (l1 ++ l2).toArray false) Q S := by
  intro C e1 e2 e3 a w hs
  subst e1 e2 e3
  refine (wpIn_wide (n := 1)).1 (wpIn_region_lit (list_use (fok_wide _ _) rfl l1 S [] a w hs h1 fun S' a' w' hle hs' _ => ?_))
  exact list_end (Q .normal) (fok_wide _ _) rfl (hle C a' w' rfl hs') h2 fun S'' a'' w'' hq hs'' _ => ⟨S'', hq, hs''⟩
end
end Go.Ab

/- The second layer: contracts of functions that hold a range over a function. No conditions. --ext6 -/
namespace Go.Ab
open Go.RowKit
set_option linter.unusedVariables false
set_option linter.unusedSimpArgs false

theorem cfl_rp {H : Nat → Option Blk} {ρ : Nat → Nat} {G : List Nat} {cs cs' : List AV} {xs ys : List RV} (h : CfL H ρ G cs cs') (e : xs = ys) : CfL H ρ G (.rp xs :: cs) (.rp ys :: cs') := by subst e; exact .cons _ _ _ _ (.rp _) h
/-- A variable that holds nil holds a new slice without elements. -/
theorem Sim.nilvar {C : Cx} {S : St} {a : Act} {w : World} {i T T' sz : Nat} (h : Sim C S a w) (hi : S.HF i = some (.var T [.r (.v (.slice none 0 0))])) : Sim C ⟨S.env, (i, some (.var T [.ow S.nx])) :: (S.nx, some (.row T' sz [])) :: S.H, S.nx + 1⟩ a w := by
  obtain ⟨Z, S0⟩ := h
  have hD : ∀ j, (fun i => i < S.nx) j → j ≠ S.nx := fun j hj e => by subst e; exact absurd hj (Nat.lt_irrefl _)
  have hne : ∀ j b, S.HF j = some b → j ≠ S.nx := fun j b hj => hD j (S0.holds j b hj).2.1
  have hin : i ≠ S.nx := hne i _ hi
  let Z' : Nat → Value := fun j => if j = S.nx then .slice none 0 0 else Z j
  have hz : ∀ j, j ≠ S.nx → Z' j = Z j := fun j hj => if_neg hj
  have hzn : Z' S.nx = .slice none 0 0 := if_pos rfl
  have hH : ∀ j, St.HF ⟨S.env, (i, some (.var T [.ow S.nx])) :: (S.nx, some (.row T' sz [])) :: S.H, S.nx + 1⟩ j = if i = j then some (.var T [.ow S.nx]) else if S.nx = j then some (.row T' sz []) else S.HF j := fun j => by
    show getH _ j = _
    rw [getH_cons, getH_cons]; rfl
  generalize hHH : St.HF ⟨S.env, (i, some (.var T [.ow S.nx])) :: (S.nx, some (.row T' sz [])) :: S.H, S.nx + 1⟩ = H2 at *
  have hB : ∀ x, x < w.heap.size → Own C H2 Z' x → Own C S.HF Z x := by
    rintro x _ (h0 | ⟨j, b, hj, hb⟩)
    · exact .inl h0
    · rw [hH] at hj
      split at hj
      · rename_i e; subst e; rw [hz i hin] at hb; exact .inr ⟨i, _, hi, hb⟩
      · split at hj
        · rename_i e; subst e; rw [hzn] at hb; cases hb
        · rename_i e; rw [hz j (fun h => e h.symm)] at hb; exact .inr ⟨j, b, hj, hb⟩
  have old : ∀ j b, H2 j = some b → j ≠ S.nx → ∃ b', S.HF j = some b' := by
    intro j b hj hn
    rw [hH] at hj
    split at hj
    · rename_i e; subst e; exact ⟨_, hi⟩
    · rw [if_neg (fun e => hn e.symm)] at hj; exact ⟨b, hj⟩
  refine ⟨Z', S0.size, S0.defers, S0.frame, S0.m0, fun u => ?_, fun u j hj => Nat.lt_succ_of_lt (S0.ids u j hj), fun j b hj => ?_, fun j j' b c hj hj' hjj x hx => ?_, fun j b x hj hx => ?_, S0.lm, fun j hj => ?_⟩
  · subst hHH
    exact AV.rep_mono (Upto.refl _) hB _ (fun j hj => hz j (hD j (S0.ids u j hj))) _ (S0.slots u)
  · subst hHH
    rw [hH] at hj
    split at hj
    · rename_i e
      subst e
      injection hj with hj
      subst hj
      obtain ⟨⟨q, us, g1, g2, g3, g4⟩, g5, _⟩ := S0.holds i _ hi
      refine ⟨⟨q, us, (hz i hin).trans g1, g2, ?_, g4⟩, Nat.lt_succ_of_lt g5, fun q hq => by simp [Blk.ids, AV.idss, AV.ids] at hq; subst hq; exact Nat.lt_succ_self _⟩
      rw [AV.reps] at g3 ⊢
      obtain ⟨u, us', e1, h1, h2⟩ := g3
      rw [AV.reps] at h2
      subst h2
      refine ⟨u, [], e1, ?_, by rw [AV.reps]⟩
      rw [AV.rep, RV.rep] at h1
      rw [AV.rep, hzn]; exact h1
    · split at hj
      · rename_i e
        subst e
        injection hj with hj
        subst hj
        exact ⟨⟨[], ⟨by simp, .inl ⟨hzn, rfl⟩⟩, .nil, by simp⟩, Nat.lt_succ_self _, fun q hq => by simp [Blk.ids] at hq⟩
      · obtain ⟨g1, g2, g3⟩ := S0.holds j b hj
        exact ⟨g1.keep (Upto.refl _) hB (hz j (hne j b hj)) (fun q hq => hz q (hD q (g3 q hq))) (fun _ _ => rfl), Nat.lt_succ_of_lt g2, fun q hq => Nat.lt_succ_of_lt (g3 q hq)⟩
  · by_cases h1 : j = S.nx
    · subst h1; rw [hzn] at hx; cases hx
    · by_cases h2 : j' = S.nx
      · subst h2; rw [hzn]; exact fun h => by cases h
      · obtain ⟨b', k1⟩ := old j b (hHH ▸ hj) h1
        obtain ⟨c', k2⟩ := old j' c (hHH ▸ hj') h2
        rw [hz j h1] at hx
        rw [hz j' h2]
        exact S0.dist j j' b' c' k1 k2 hjj x hx
  · by_cases h1 : j = S.nx
    · subst h1; rw [hzn] at hx; cases hx
    · obtain ⟨b', k1⟩ := old j b (hHH ▸ hj) h1
      rw [hz j h1] at hx
      exact S0.fresh j b' x k1 hx
  · obtain ⟨g1, g2⟩ := S0.zl j hj
    exact ⟨(hz j (hD j g2)).trans g1, Nat.lt_succ_of_lt g2⟩
theorem meets_raw {P : Program} {f : FuncId} {args : List AV} {r : AV} (hr : ∀ k, r.unfr k = (r, [])) (h : ∀ (w : World) (Z : Nat → Value) (M : Nat → Prop) (us : List Value), (∀ x, M x → x < w.heap.size) → AV.reps Z M w args us → Calls P f us.toArray w fun e w' => ∃ v, e = .returned v ∧ Below w.heap.size w w' ∧ AV.rep Z M w' r v) : Meets P f args [] r [] := by
  intro w Z M k us hM hk hargs hpre hdist
  refine Calls.mono (h w Z M us hM hargs) ?_
  rintro e w' ⟨v, rfl, hb, hv⟩
  have e1 : callSp k [] r [] = ⟨true, [], r, [], []⟩ := by unfold callSp; rw [hr]; rfl
  refine ⟨v, rfl, Z, ?_⟩
  rw [e1]
  refine ⟨fun _ _ => rfl, ?_, fun i b h => (nomatch h), fun j b h => (by simp at h), fun j j' x h => absurd h (Nat.not_lt_zero _), fun j x h => absurd h (Nat.not_lt_zero _), Upto.of_below hb⟩
  refine AV.rep_mono (Upto.refl _) (fun x _ hx => ?_) r (fun _ _ => rfl) v hv
  rcases hx with hx | ⟨j, hj, _⟩
  · exact hx
  · exact absurd hj (Nat.not_lt_zero _)
section
variable {P : Program} {n : Nat} {C : Cx} {S : St} {F : Fam} {a : Act} {w : World} {Z : Nat → Value} {K : Nat}
theorem wp_awp {L : Ln} {c : Code} {Q : Exit → St → Prop} {Q' : Exit → Act → World → Prop} (hP : C.P = P) (hl : C.ln = L) (hs : Sim C S a w) (h : awp P L C.N c Q S) (k : ∀ e S' a' w', Q e S' → Sim C S' a' w' → Q' e a' w') : c.wpIn Fence.wide n P Q' a w :=
  wpIn_mono ((wpIn_wide (n := n)).2 (h C hP hl rfl a w hs)) fun e a' w' ⟨S', h1, h2⟩ => k e S' a' w' h1 h2
theorem wp_awpX {c : Code} {Q : Exit → St → Prop} {Q' : Exit → Act → World → Prop} (hP : C.P = P) (hl : C.ln = ⟨0, 0⟩) (hf : fullB S = true) (hs : SimK C S F a w Z K) (h : awp P ⟨S.nx, S.nx⟩ C.N c Q S) (k : ∀ e S' a' w' Z' K', Q e S' → SimK C S' F a' w' Z' K' → Q' e a' w') : c.wpIn Fence.wide n P Q' a w := by
  obtain ⟨C1, p1, p2, p3, q1, q2⟩ := hs.frameKp hl (full_of hf)
  refine wpIn_mono ((wpIn_wide (n := n)).2 (h C1 (p1.trans hP) p3 p2 a w q1)) fun e a' w' ⟨S', h1, h2⟩ => ?_
  obtain ⟨Z', K', g1, _⟩ := q2 S' a' w' h2
  exact k e S' a' w' Z' K' h1 g1
theorem fn_ofM {f : FuncId} {fn : Func} {c : Code} {args : List AV} {r : AV} (hf : P.funcs[f]? = some fn) (hb : fn.body = some c) (hn : args.length ≤ fn.ntmps) (hok : argsOk args [] = true)
    (h : ∀ (C : Cx) a w, C.P = P → C.ln = ⟨0, 0⟩ → C.N = fn.ntmps → C.df = [] → Sim C (St0 args []) a w → c.wpIn Fence.wide n P (fun e a' w' => (e = .normal ∨ e = .ret) ∧ ∃ S' D Z' K', RetOk P ⟨0, 0⟩ fn S' r [] ∧ SimK { C with df := [{ target := .collected D, args := #[] }] } S' [(.pointer (some ⟨D, 0, none⟩), .obj (.deferred (some [])))] a' w' Z' K') a w) : Meets P f args [] r [] := by
  intro w Z M k us hM hk hargs hpre hdist
  unfold argsOk at hok
  simp only [Bool.and_eq_true, List.all_eq_true, blt_t] at hok
  obtain ⟨o1, o2⟩ := hok
  have hlen := AV.reps_len hargs
  let C : Cx := ⟨P, w, M, Z, ⟨0, 0⟩, fn.ntmps, []⟩
  have hB : ∀ q, q < w.heap.size → Own C (St0 args []).HF Z q → M q := by
    rintro q _ (h0 | ⟨i, b, h1, h2⟩)
    · exact h0
    · cases h1
  have S : Sim C (St0 args []) { tmps := us.toArray ++ Array.replicate (fn.ntmps - us.toArray.size) undef, defers := [] } w := by
    refine ⟨Z, by simp [C]; omega, rfl, Upto.refl _, hM, fun t => ?_, fun t i hi => ?_, fun i b hb => (nomatch hb), fun i j b c hi => (nomatch hi), fun i b x hi => (nomatch hi), Nat.le_refl _, fun i hi => absurd hi (Nat.not_lt_zero _)⟩
    · show (get (numE 0 args) t).rep _ _ _ _
      rw [get_numE, if_pos (Nat.zero_le _), Nat.sub_zero, List.getD_eq_getElem?_getD]
      cases ht : args[t]? with
      | none => simp only [Option.getD_none, AV.rep]
      | some x =>
        obtain ⟨u, hu, hr⟩ := AV.reps_get hargs ht
        simp only [Option.getD_some]
        refine AV.rep_mono (Upto.refl _) hB x (fun _ _ => rfl) _ ?_
        have htl : t < us.length := by
          rcases Nat.lt_or_ge t us.length with h' | h'
          · exact h'
          · rw [List.getElem?_eq_none h'] at hu; cases hu
        have : (us.toArray ++ Array.replicate (fn.ntmps - us.toArray.size) undef).getD t undef = u := by
          rw [Array.getD_eq_getD_getElem?, Array.getElem?_append_left (by simpa using htl)]
          simp [hu]
        rw [this]; exact hr
    · have hi' : i ∈ (get (numE 0 args) t).ids := hi
      rw [get_numE, if_pos (Nat.zero_le _), Nat.sub_zero, List.getD_eq_getElem?_getD] at hi'
      cases ht : args[t]? with
      | none => rw [ht] at hi'; simp [AV.ids] at hi'
      | some x => rw [ht] at hi'; exact o1 i (idss_mem (List.mem_of_getElem? ht) hi')
  refine (callsIn_wide (n := n)).1 (callsIn_of_wp_marks hf hb trivial (wpIn_mono (h C _ _ rfl rfl rfl rfl S) ?_) rfl)
  rintro e a' w' ⟨he, S', D, Z1, K1, hr, hS⟩
  have hd : a'.defers = [{ target := .collected D, args := #[] }] := hS.sim.defers
  obtain ⟨hg, s2, _⟩ := SimK.reobj (F1 := []) (F2 := []) rfl hS (o' := .deferred none) (fun _ _ _ => Obj.noConfusion)
  have s3 : SimK C S' [] { a' with defers := [] } (w'.putObj D (.deferred none)) Z1 K1 := by
    have s := SimK.drop (F := []) rfl s2
    exact s.reenv rfl (E := S'.env) (d := []) (a' := { a' with defers := [] }) s.sim.size rfl s.eid s.sim.slots
  obtain ⟨v, hv, hA⟩ := ret_after (pre := []) (post := []) (k := k) (SimX.sim ⟨Z1, K1, s3⟩) rfl rfl hk hr
  have key : LeavesInM Fence.wide n P fn a'.tmps (fun e w' => ∃ v, e = .returned v ∧ After k (callSp k [] r []) Z M w v w') a'.defers .returning w' := by
    rw [hd]
    exact ⟨fun h => FrameMode.noConfusion h, .inl ⟨D, _, rfl, run_takeDeferred hg, v, hv, v, rfl, hA⟩⟩
  rcases he with rfl | rfl
  · exact key
  · exact key
end
end Go.Ab
