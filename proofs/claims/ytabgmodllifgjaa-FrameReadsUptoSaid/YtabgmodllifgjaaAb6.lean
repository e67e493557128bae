/- The second layer: what a function hands back; the contract from the walk. No conditions. -/
import Derived.Test.YtabgmodllifgjaaAb5
namespace Go.Ab
open Go.RowKit
set_option linter.unusedVariables false

mutual
inductive Rt (H : Nat → Option Blk) (L : Nat) (G : List Nat) : AV → AV → List Nat → Prop
  | na (a) : Rt H L G a .na []
  | r (c) : Rt H L G (.r c) (.r c) []
  | rp (cs) : Rt H L G (.rp cs) (.rp cs) []
  | fr (i T sz es) : H i = some (.row T sz es) → Rt H L G (.ow i) (.fr T sz es) [i]
  | fz (j T sz es) : H j = some (.row T sz es) → j ∈ G → Rt H L G (.ow j) (.r (.sl sz es)) []
  | pt (i o) : i < L → Rt H L G (.pt i o) (.pt i o) []
  | ag (cs ds F) : RtL H L G cs ds F → Rt H L G (.ag cs) (.ag ds) F
  | tu (cs ds F) : RtL H L G cs ds F → Rt H L G (.tu cs) (.tu ds) F
inductive RtL (H : Nat → Option Blk) (L : Nat) (G : List Nat) : List AV → List AV → List Nat → Prop
  | nil : RtL H L G [] [] []
  | cons (a d as ds F F') : Rt H L G a d F → RtL H L G as ds F' → RtL H L G (a :: as) (d :: ds) (F ++ F')
end

section
variable {H : Nat → Option Blk} {L : Nat} {G : List Nat} {Z Z' : Nat → Value} {B B' : Nat → Prop} {w : World}
mutual
theorem Rt.nums : ∀ {a d : AV} {F : List Nat} (_ : Rt H L G a d F) (k : Nat), (d.unfr k).2.length = F.length ∧ ∀ (j : Nat) (b : Blk), (d.unfr k).2[j]? = some b → ∃ i T sz es, F[j]? = some i ∧ H i = some b ∧ b = .row T sz es
  | _, _, _, .na a, k => by simp [AV.unfr]
  | _, _, _, .r a, k => by simp [AV.unfr]
  | _, _, _, .rp a, k => by simp [AV.unfr]
  | _, _, _, .fr i T sz es h, k => by
    simp only [AV.unfr]
    refine ⟨rfl, fun j b hb => ?_⟩
    cases j with
    | zero => simp at hb; subst hb; exact ⟨i, T, sz, es, rfl, h, rfl⟩
    | succ j => simp at hb
  | _, _, _, .fz j T sz es h hg, k => by simp [AV.unfr]
  | _, _, _, .pt i o h, k => by simp [AV.unfr]
  | _, _, _, .ag cs ds F h, k => by simp only [AV.unfr]; exact RtL.nums h k
  | _, _, _, .tu cs ds F h, k => by simp only [AV.unfr]; exact RtL.nums h k
theorem RtL.nums : ∀ {as ds : List AV} {F : List Nat} (_ : RtL H L G as ds F) (k : Nat), (AV.unfrs ds k).2.length = F.length ∧ ∀ (j : Nat) (b : Blk), (AV.unfrs ds k).2[j]? = some b → ∃ i T sz es, F[j]? = some i ∧ H i = some b ∧ b = .row T sz es
  | _, _, _, .nil, k => by simp [AV.unfrs]
  | _, _, _, .cons a d as ds F F' h1 h2, k => by
    simp only [AV.unfrs]
    obtain ⟨e1, g1⟩ := Rt.nums h1 k
    obtain ⟨e2, g2⟩ := RtL.nums h2 (k + (d.unfr k).2.length)
    refine ⟨by rw [List.length_append, List.length_append, e1, ← e1, e2, e1], fun j b hb => ?_⟩
    rcases Nat.lt_or_ge j (d.unfr k).2.length with hj | hj
    · rw [List.getElem?_append_left hj] at hb
      obtain ⟨i, T, sz, es, h3, h4⟩ := g1 j b hb
      exact ⟨i, T, sz, es, by rw [List.getElem?_append_left (by omega)]; exact h3, h4⟩
    · rw [List.getElem?_append_right hj] at hb
      obtain ⟨i, T, sz, es, h3, h4⟩ := g2 _ b hb
      exact ⟨i, T, sz, es, by rw [List.getElem?_append_right (by omega), ← e1]; exact h3, h4⟩
end
mutual
theorem Rt.rep (hB : ∀ k, k < w.heap.size → B' k → B k) (hG : ∀ j b, j ∈ G → H j = some b → held Z B w j b ∧ ∀ x, blk (Z j) = some x → ¬ B' x) (hL : ∀ i, i < L → Z' i = Z i) :
    ∀ {a d : AV} {F : List Nat} (_ : Rt H L G a d F) (k : Nat) (_ : ∀ (j i : Nat), F[j]? = some i → Z' (k + j) = Z i) (u : Value), AV.rep Z B w a u → AV.rep Z' B' w (d.unfr k).1 u
  | _, _, _, .na a, k, _, u, h => by simp only [AV.unfr, AV.rep]
  | _, _, _, .r c, k, _, u, h => by simp only [AV.unfr]; exact AV.rep_mono (Upto.refl _) hB _ (fun i hi => by simp [AV.ids] at hi) _ h
  | _, _, _, .rp c, k, _, u, h => by simp only [AV.unfr]; exact AV.rep_mono (Upto.refl _) hB _ (fun i hi => by simp [AV.ids] at hi) _ h
  | _, _, _, .fr i T sz es hi, k, hz, u, h => by simp only [AV.unfr, AV.rep] at h ⊢; rw [h]; exact (hz 0 i rfl).symm
  | _, _, _, .fz j T sz es hj hg, k, _, u, h => by
    simp only [AV.unfr, AV.rep] at h ⊢
    subst h
    obtain ⟨⟨us, h1, h2, h3⟩, h4⟩ := hG j _ hg hj
    exact rows_of_own (n := 0) h1 h2 h3 hB h4
  | _, _, _, .pt i o hi, k, _, u, h => by simp only [AV.unfr, AV.rep] at h ⊢; rw [hL i hi]; exact h
  | _, _, _, .ag cs ds F hc, k, hz, u, h => by
    simp only [AV.unfr, AV.rep] at h ⊢
    obtain ⟨us, e, h⟩ := h
    exact ⟨us, e, RtL.reps hB hG hL hc k hz _ h⟩
  | _, _, _, .tu cs ds F hc, k, hz, u, h => by
    simp only [AV.unfr, AV.rep] at h ⊢
    obtain ⟨us, e, h⟩ := h
    exact ⟨us, e, RtL.reps hB hG hL hc k hz _ h⟩
theorem RtL.reps (hB : ∀ k, k < w.heap.size → B' k → B k) (hG : ∀ j b, j ∈ G → H j = some b → held Z B w j b ∧ ∀ x, blk (Z j) = some x → ¬ B' x) (hL : ∀ i, i < L → Z' i = Z i) :
    ∀ {as ds : List AV} {F : List Nat} (_ : RtL H L G as ds F) (k : Nat) (_ : ∀ (j i : Nat), F[j]? = some i → Z' (k + j) = Z i) (us : List Value), AV.reps Z B w as us → AV.reps Z' B' w (AV.unfrs ds k).1 us
  | _, _, _, .nil, k, _, us, h => by simp only [AV.unfrs, AV.reps] at h ⊢; exact h
  | _, _, _, .cons a d as ds F F' h1 h2, k, hz, us, h => by
    simp only [AV.unfrs, AV.reps] at h ⊢
    obtain ⟨u, us', e, h3, h4⟩ := h
    have e1 := (Rt.nums h1 k).1
    refine ⟨u, us', e, Rt.rep hB hG hL h1 k (fun j i hj => hz j i ?_) u h3, RtL.reps hB hG hL h2 _ (fun j i hj => ?_) us' h4⟩
    · have : j < F.length := by
        rcases Nat.lt_or_ge j F.length with h' | h'
        · exact h'
        · rw [List.getElem?_eq_none h'] at hj; cases hj
      rw [List.getElem?_append_left this]; exact hj
    · rw [e1, Nat.add_assoc]
      refine hz (F.length + j) i ?_
      rw [List.getElem?_append_right (by omega)]
      simpa using hj
end
end

theorem numd_mem : ∀ {k : Nat} {l : List Blk} {i : Nat} {b : Blk}, (i, b) ∈ numd k l ↔ k ≤ i ∧ l[i - k]? = some b
  | k, [], i, b => by simp [numd]
  | k, c :: l, i, b => by
    rw [numd, List.mem_cons, numd_mem (k := k + 1) (l := l)]
    constructor
    · rintro (e | ⟨h1, h2⟩)
      · injection e with e1 e2; subst e1 e2; exact ⟨Nat.le_refl _, by simp⟩
      · exact ⟨by omega, by rw [show i - k = (i - (k + 1)) + 1 by omega, List.getElem?_cons_succ]; exact h2⟩
    · rintro ⟨h1, h2⟩
      rcases Nat.lt_or_ge k i with h | h
      · exact .inr ⟨by omega, by rw [show i - k = (i - (k + 1)) + 1 by omega, List.getElem?_cons_succ] at h2; exact h2⟩
      · have : i = k := by omega
        subst this
        simp at h2
        subst h2
        exact .inl rfl
theorem numdO_mem {l : List (Nat × Blk)} {i : Nat} {o : Option Blk} : (i, o) ∈ numdO l ↔ ∃ b, o = some b ∧ (i, b) ∈ l := by
  unfold numdO
  rw [List.mem_map]
  constructor
  · rintro ⟨⟨j, b⟩, h, e⟩
    injection e with e1 e2
    subst e1 e2
    exact ⟨b, rfl, h⟩
  · rintro ⟨b, rfl, h⟩
    exact ⟨_, h, rfl⟩

/-! ## Results -/
def itemS (tmps : Array Value) : ResultVar → Sem Value
  | .tmp t => pure (tmps.getD t undef)
  | .cell a t => do loadVar t (← asAddr (tmps.getD a undef))
set_option linter.unusedSimpArgs false
theorem at_assoc {α β γ : Type} (r : Result α) (f : α → World → Result β) (g : β → World → Result γ) : (r.andThen f).andThen g = r.andThen fun a w => (f a w).andThen g := by cases r <;> rfl
theorem at_ok {α : Type} (r : Result α) : (r.andThen fun a w => .ok a w) = r := by cases r <;> rfl
theorem results_one {P : Program} {fn : Func} {r : ResultVar} {tmps : Array Value} {w : World} {v : Value} (h : fn.results = #[r]) (h1 : (itemS tmps r).run P w = .ok v w) : (results fn tmps).run P w = .ok v w := by
  have : (results fn tmps).run P w = ((itemS tmps r).run P w).andThen fun v w => .ok v w := by
    cases r <;> simp [results, h, itemS, at_assoc, at_ok]
  rw [this, h1]; rfl
theorem results_two {P : Program} {fn : Func} {r s : ResultVar} {tmps : Array Value} {w : World} {v u : Value} (h : fn.results = #[r, s]) (h1 : (itemS tmps r).run P w = .ok v w) (h2 : (itemS tmps s).run P w = .ok u w) : (results fn tmps).run P w = .ok (.tuple #[v, u]) w := by
  have : (results fn tmps).run P w = ((itemS tmps r).run P w).andThen fun v w => ((itemS tmps s).run P w).andThen fun u w => .ok (.tuple #[v, u]) w := by
    cases r <;> cases s <;> simp [results, h, itemS, at_assoc, at_ok]
  rw [this, h1]; simp only [Result.andThen_ok, h2]
theorem results_three {P : Program} {fn : Func} {r s t : ResultVar} {tmps : Array Value} {w : World} {v u x : Value} (h : fn.results = #[r, s, t]) (h1 : (itemS tmps r).run P w = .ok v w) (h2 : (itemS tmps s).run P w = .ok u w) (h3 : (itemS tmps t).run P w = .ok x w) : (results fn tmps).run P w = .ok (.tuple #[v, u, x]) w := by
  have : (results fn tmps).run P w = ((itemS tmps r).run P w).andThen fun v w => ((itemS tmps s).run P w).andThen fun u w => ((itemS tmps t).run P w).andThen fun x w => .ok (.tuple #[v, u, x]) w := by
    cases r <;> cases s <;> cases t <;> simp [results, h, itemS, at_assoc, at_ok]
  rw [this, h1]; simp only [Result.andThen_ok, h2, h3]

def isAggD : TypeDesc → Bool
  | .struct _ | .array _ _ => true
  | _ => false
/-- What a place of the results reads as. -/
inductive ResV (P : Program) (S : St) : ResultVar → AV → Prop
  | tmp (t) (x) : S.envF t = x → ResV P S (.tmp t) x
  | agg (p ty i T cs d) : S.envF p = .pt i 0 → S.HF i = some (.var T cs) → P.underlying ty = some d → isAggD d = true → (P.info? ty).map (·.size) = some cs.length → ResV P S (.cell p ty) (.ag cs)
  | one (p ty i T c d) : S.envF p = .pt i 0 → S.HF i = some (.var T [c]) → P.underlying ty = some d → isAggD d = false → ResV P S (.cell p ty) c
theorem run_loadVar_one {P : Program} (w : World) (a : Addr) (ty : TypeId) (d : TypeDesc) (u : Value) (hu : P.underlying ty = some d) (hd : isAggD d = false) (hc : w.cell? a = some u) : (loadVar ty a).run P w = .ok u w := by
  have : (isAgg ty).run P w = .ok false w := by
    simp only [isAgg, Sem.run_bind, run_underlying hu, Result.andThen_ok]
    cases d <;> first | rfl | (simp [isAggD] at hd)
  simp only [loadVar, Sem.run_bind, this, Result.andThen_ok]
  simp [hc]
theorem reps_size {Z : Nat → Value} {B : Nat → Prop} {w : World} {cs : List AV} {us : Array Value} (h : AV.reps Z B w cs us.toList) : cs.length = us.size := by simpa using AV.reps_len h
theorem ResV.run {P : Program} {S : St} {C : Cx} {D : Nat → Prop} {Z : Nat → Value} {a : Act} {w : World} (hs : SimF C D S.envF S.HF Z a w) {r : ResultVar} {x : AV} (h : ResV P S r x) : ∃ v, (itemS a.tmps r).run P w = .ok v w ∧ x.rep Z (Own C S.HF Z) w v := by
  cases h with
  | tmp t x h1 => subst h1; exact ⟨_, rfl, hs.slots t⟩
  | agg p ty i T cs d h1 h2 h3 h4 h5 =>
    have h6 := hs.slots p
    rw [h1, AV.rep] at h6
    obtain ⟨b, e1, e2⟩ := h6
    obtain ⟨b', us, e3, hg, hr, _⟩ := (hs.holds i _ h2).1
    rw [e3] at e1
    simp only [blk, Option.some.injEq] at e1
    obtain rfl : b = b' := e1.symm
    refine ⟨.agg us, ?_, ?_⟩
    · have e2' : a.tmps[p]?.getD undef = .pointer (some ⟨b, 0, none⟩) := by simpa using e2
      simp only [itemS, Sem.run_bind]
      have : (asAddr (a.tmps.getD p undef)).run P w = .ok ⟨b, 0, none⟩ w := by rw [e2]; rfl
      rw [this]
      simp only [Result.andThen_ok]
      exact run_loadVar_row w b T ty us (0, 0) d hg h3 (by cases d <;> first | rfl | (simp [isAggD] at h4)) (by rw [h5, reps_size hr])
    · rw [AV.rep]; exact ⟨us, rfl, hr⟩
  | one p ty i T c d h1 h2 h3 h4 =>
    have h6 := hs.slots p
    rw [h1, AV.rep] at h6
    obtain ⟨b, e1, e2⟩ := h6
    obtain ⟨b', us, e3, hg, hr, _⟩ := (hs.holds i _ h2).1
    rw [e3] at e1
    simp only [blk, Option.some.injEq] at e1
    obtain rfl : b = b' := e1.symm
    rw [AV.reps] at hr
    obtain ⟨u, us', e4, h7, h8⟩ := hr
    refine ⟨u, ?_, h7⟩
    simp only [itemS, Sem.run_bind]
    have : (asAddr (a.tmps.getD p undef)).run P w = .ok ⟨b, 0, none⟩ w := by rw [e2]; rfl
    rw [this]
    simp only [Result.andThen_ok]
    refine run_loadVar_one w _ ty d u h3 h4 ?_
    rw [cell_of_row w b 0 us T (0, 0) hg]
    have : us[0]? = us.toList[0]? := by simp
    rw [this, e4]; rfl

/-- The results of a function as one value. -/
inductive ResA (P : Program) (S : St) (fn : Func) : AV → Prop
  | one (r x) : fn.results = #[r] → ResV P S r x → ResA P S fn x
  | two (r s x y) : fn.results = #[r, s] → ResV P S r x → ResV P S s y → ResA P S fn (.tu [x, y])
  | three (r s t x y z) : fn.results = #[r, s, t] → ResV P S r x → ResV P S s y → ResV P S t z → ResA P S fn (.tu [x, y, z])
theorem ResA.run {P : Program} {S : St} {C : Cx} {D : Nat → Prop} {Z : Nat → Value} {a : Act} {w : World} (hs : SimF C D S.envF S.HF Z a w) {fn : Func} {x : AV} (h : ResA P S fn x) : ∃ v, (results fn a.tmps).run P w = .ok v w ∧ x.rep Z (Own C S.HF Z) w v := by
  cases h with
  | one r x h1 h2 =>
    obtain ⟨v, h3, h4⟩ := h2.run hs
    exact ⟨v, results_one h1 h3, h4⟩
  | two r s x y h1 h2 h3 =>
    obtain ⟨v, h4, h5⟩ := h2.run hs
    obtain ⟨u, h6, h7⟩ := h3.run hs
    refine ⟨_, results_two h1 h4 h6, ?_⟩
    simp only [AV.rep, AV.reps]
    exact ⟨_, rfl, v, _, rfl, h5, u, _, rfl, h7, rfl⟩
  | three r s t x y z h1 h2 h3 h4 =>
    obtain ⟨v, h5, h6⟩ := h2.run hs
    obtain ⟨u, h7, h8⟩ := h3.run hs
    obtain ⟨q, h9, h10⟩ := h4.run hs
    refine ⟨_, results_three h1 h5 h7 h9, ?_⟩
    simp only [AV.rep, AV.reps]
    exact ⟨_, rfl, v, _, rfl, h6, u, _, rfl, h8, q, _, rfl, h10, rfl⟩

def retNums (L : Ln) (F G : List Nat) : Bool := (F.all fun i => Nat.ble L.n i) && (G.all fun i => Nat.beq L.m 0 && Nat.ble L.n i && F.all fun j => !Nat.beq i j) && decide F.Nodup
/-- What stands at the end: the results; own blocks of the caller hold what is said. -/
structure RetOk (P : Program) (L : Ln) (fn : Func) (S : St) (r : AV) (post : List (Option Blk)) : Prop where
  ex : ∃ x F G, ResA P S fn x ∧ Rt S.HF L.n G x r F ∧ retNums L F G = true
  post : ∀ i b, (i, some b) ∈ numdP 0 post → S.HF i = some b ∧ b.ids = []

theorem numdP_mem : ∀ {k : Nat} {l : List (Option Blk)} {i : Nat} {b : Option Blk}, (i, b) ∈ numdP k l ↔ k ≤ i ∧ l[i - k]? = some b
  | k, [], i, b => by simp [numdP]
  | k, c :: l, i, b => by
    rw [numdP, List.mem_cons, numdP_mem (k := k + 1) (l := l)]
    constructor
    · rintro (e | ⟨h1, h2⟩)
      · injection e with e1 e2; subst e1 e2; exact ⟨Nat.le_refl _, by simp⟩
      · exact ⟨by omega, by rw [show i - k = (i - (k + 1)) + 1 by omega, List.getElem?_cons_succ]; exact h2⟩
    · rintro ⟨h1, h2⟩
      rcases Nat.lt_or_ge k i with h | h
      · exact .inr ⟨by omega, by rw [show i - k = (i - (k + 1)) + 1 by omega, List.getElem?_cons_succ] at h2; exact h2⟩
      · have : i = k := by omega
        subst this
        simp at h2
        subst h2
        exact .inl rfl
theorem moved_none : ∀ (l : List (Option Blk)) (i : Nat), i < moved l → l[i]? = some none
  | [], i, h => by simp [moved] at h
  | some b :: l, i, h => by simp [moved] at h
  | none :: l, 0, h => rfl
  | none :: l, i + 1, h => by
    rw [moved] at h
    rw [List.getElem?_cons_succ]
    exact moved_none l i (by omega)
theorem numd_len : ∀ (k : Nat) (l : List Blk), (numd k l).length = l.length
  | _, [] => rfl
  | k, _ :: l => by simp [numd, numd_len]

theorem ret_after {P : Program} {fn : Func} {S : St} {r : AV} {pre : List Blk} {post : List (Option Blk)} {C : Cx} {a : Act} {w : World} {k : Nat} (hs : Sim C S a w) (hpl : post.length = C.nl) (hmv : C.ln.m = moved post) (hk : C.nl ≤ k) (hr : RetOk P C.ln fn S r post) :
    ∃ v, (results fn a.tmps).run P w = .ok v w ∧ After k (callSp k pre r post) C.Z0 C.M0 C.w0 v w := by
  obtain ⟨Z, hs⟩ := hs
  obtain ⟨⟨x, F, G, hx, hrt, hn⟩, hpost⟩ := hr
  obtain ⟨v, hv, hrep⟩ := hx.run hs
  unfold retNums at hn
  simp only [Bool.and_eq_true, List.all_eq_true, ble_t, decide_eq_true_eq] at hn
  obtain ⟨⟨n1, n2⟩, n3⟩ := hn
  obtain ⟨hl, hb⟩ := hrt.nums k
  refine ⟨v, hv, fun i => if k ≤ i ∧ i < k + F.length then Z (F.getD (i - k) 0) else C.Z0 i, ?_⟩
  generalize hZ : (fun i => if k ≤ i ∧ i < k + F.length then Z (F.getD (i - k) 0) else C.Z0 i) = Z'
  have hZ1 : ∀ (j i : Nat), F[j]? = some i → Z' (k + j) = Z i := by
    intro j i hj
    have hjl : j < F.length := by
      rcases Nat.lt_or_ge j F.length with h' | h'
      · exact h'
      · rw [List.getElem?_eq_none h'] at hj; cases hj
    rw [← hZ]
    simp only
    rw [if_pos (by omega), show k + j - k = j by omega, List.getD_eq_getElem?_getD, hj]
    rfl
  have hZ2 : ∀ i, i < C.nl → Z' i = Z i := by
    intro i hi
    rw [← hZ]
    simp only
    rw [if_neg (by omega), (hs.zl i hi).1]
  have hfr : ∀ j, j < F.length → ∃ i b, F[j]? = some i ∧ S.HF i = some b ∧ i ∈ F := by
    intro j hj
    have h1 : (r.unfr k).2[j]? = some ((r.unfr k).2[j]'(by omega)) := List.getElem?_eq_getElem _
    obtain ⟨i, T, sz, es, h2, h3, _⟩ := hb j _ h1
    exact ⟨i, _, h2, h3, List.mem_of_getElem? h2⟩
  have hlen : (callSp k pre r post).frs.length = F.length := hl
  have hB : ∀ q, q < w.heap.size → New k (callSp k pre r post) Z' C.M0 q → Own C S.HF Z q := by
    rintro q _ (h0 | ⟨j, hj, hjq⟩)
    · exact .inl h0
    · obtain ⟨i, b, h1, h2, _⟩ := hfr j (by omega)
      rw [hZ1 j i h1] at hjq
      exact .inr ⟨i, b, h2, hjq⟩
  have hG : ∀ j b, j ∈ G → S.HF j = some b → held Z (Own C S.HF Z) w j b ∧ ∀ x, blk (Z j) = some x → ¬ New k (callSp k pre r post) Z' C.M0 x := by
    intro j b hj hjb
    refine ⟨(hs.holds j b hjb).1, fun x hx => ?_⟩
    obtain ⟨⟨g0, g1⟩, g2⟩ := n2 j hj
    have g0 := Nat.eq_of_beq_eq_true g0
    rintro (h0 | ⟨q, hq, hqx⟩)
    · have := hs.m0 x h0
      rcases hs.fresh j b x hjb hx with h3 | h3 | ⟨q, h3, _⟩
      · unfold Cx.nl at h3; omega
      · omega
      · omega
    · obtain ⟨i, c, h1, h2, h3⟩ := hfr q (by omega)
      rw [hZ1 q i h1] at hqx
      have hne : j ≠ i := fun e => by have := g2 i h3; simp [e] at this
      exact hs.dist j i b c hjb h2 hne x hx hqx
  refine ⟨fun i hi => ?_, hrt.rep hB hG hZ2 k hZ1 v hrep, fun i b hib => ?_, fun j b hjb => ?_, fun j j' q hj hj' hne h1 h2 => ?_, fun j q hj hq => ?_, ?_⟩
  · rw [← hZ]
    simp only
    rw [if_neg (by omega)]
  · have hm : (i, some b) ∈ numdP 0 post := hib
    obtain ⟨h1, h2⟩ := hpost i b hm
    have hi : i < C.nl := by
      have h3 := (numdP_mem.1 hm).2
      have : i - 0 < post.length := by
        rcases Nat.lt_or_ge (i - 0) post.length with h' | h'
        · exact h'
        · rw [List.getElem?_eq_none h'] at h3; cases h3
      omega
    exact ((hs.holds i b h1).1).keep (Upto.refl _) hB (hZ2 i hi) (fun q hq => by rw [h2] at hq; cases hq) (fun _ _ => rfl)
  · obtain ⟨i, T, sz, es, h1, h2, h3⟩ := hb j b hjb
    subst h3
    obtain ⟨us, g1, g2, g3⟩ := (hs.holds i _ h2).1
    exact ⟨us, by rw [hZ1 j i h1]; exact g1, g2.mono (Upto.refl _) hB, g3⟩
  · obtain ⟨i, b, h3, h4, _⟩ := hfr j (by omega)
    obtain ⟨i', b', h5, h6, _⟩ := hfr j' (by omega)
    rw [hZ1 j i h3] at h1
    rw [hZ1 j' i' h5] at h2
    refine hs.dist i i' b b' h4 h6 (fun e => hne ?_) q h1 h2
    subst e
    have hj1 : j < F.length := by omega
    have hj2 : j' < F.length := by omega
    rw [List.getElem?_eq_getElem hj1] at h3
    rw [List.getElem?_eq_getElem hj2] at h5
    injection h3 with h3
    injection h5 with h5
    have hp := List.pairwise_iff_getElem.1 n3
    rcases Nat.lt_trichotomy j j' with h | h | h
    · exact absurd (h3.trans h5.symm) (hp j j' hj1 hj2 h)
    · exact h
    · exact absurd (h5.trans h3.symm) (hp j' j hj2 hj1 h)
  · obtain ⟨i, b, h3, h4, h5⟩ := hfr j (by omega)
    rw [hZ1 j i h3] at hq
    have := n1 i h5
    rcases hs.fresh i b q h4 hq with h6 | h6 | ⟨p, h6, h7⟩
    · unfold Cx.nl at h6; omega
    · exact .inl h6
    · exact .inr ⟨p, numdP_mem.2 ⟨Nat.zero_le _, by rw [Nat.sub_zero]; exact moved_none post p (by omega)⟩, h7⟩
  · refine hs.frame.mono fun q _ => ?_
    rintro ⟨i, hi, hiq⟩
    have : i < post.length := by omega
    refine ⟨i, post[i], numdP_mem.2 ⟨Nat.zero_le _, ?_⟩, hiq⟩
    simp [this]

def numE : Nat → List AV → List (Nat × AV)
  | _, [] => []
  | k, x :: xs => (k, x) :: numE (k + 1) xs
theorem get_numE : ∀ (k : Nat) (xs : List AV) (t : Nat), get (numE k xs) t = if k ≤ t then xs.getD (t - k) .na else .na
  | k, [], t => by simp [numE, get]
  | k, x :: xs, t => by
    rw [numE, get, get_numE (k + 1) xs t]
    by_cases h : k = t
    · subst h; simp
    · have h1 : Nat.beq k t = false := by cases hb : Nat.beq k t with
        | false => rfl
        | true => exact absurd (Nat.eq_of_beq_eq_true hb) h
      rw [h1]
      simp only [cond_false]
      by_cases h2 : k + 1 ≤ t
      · rw [if_pos h2, if_pos (by omega), show t - k = (t - (k + 1)) + 1 by omega, List.getD_cons_succ]
      · rw [if_neg h2, if_neg (by omega)]
theorem getH_numdO : ∀ (k : Nat) (l : List Blk) (i : Nat) (b : Blk), getH (numdO (numd k l)) i = some b → (i, b) ∈ numd k l := by
  intro k l i b h
  obtain ⟨b', e, hm⟩ := numdO_mem.1 (getH_mem h)
  injection e with e
  subst e
  exact hm
def argsOk (args : List AV) (pre : List Blk) : Bool := ((AV.idss args).all fun i => Nat.blt i pre.length) && pre.all fun b => b.ids.all fun i => Nat.blt i pre.length
theorem idss_mem : ∀ {xs : List AV} {x : AV} {i : Nat}, x ∈ xs → i ∈ x.ids → i ∈ AV.idss xs
  | y :: ys, x, i, h, hi => by
    rw [AV.idss]
    rcases List.mem_cons.1 h with e | e
    · subst e; exact List.mem_append_left _ hi
    · exact List.mem_append_right _ (idss_mem e hi)

def St0 (args : List AV) (pre : List Blk) : St := ⟨numE 0 args, numdO (numd 0 pre), pre.length⟩
/-- From the walk of the body to the contract. -/
theorem fn_of {P : Program} {f : FuncId} {fn : Func} {c : Code} {args : List AV} {pre : List Blk} {post : List (Option Blk)} {r : AV} (hf : P.funcs[f]? = some fn) (hb : fn.body = some c) (hn : args.length ≤ fn.ntmps) (hok : argsOk args pre = true) (hpl : post.length = pre.length)
    (h : awp P ⟨pre.length, moved post⟩ fn.ntmps c (fun e S => (e = .normal ∨ e = .ret) ∧ RetOk P ⟨pre.length, moved post⟩ fn S r post) (St0 args pre)) : Meets P f args pre r post := by
  intro w Z M k us hM hk hargs hpre hdist
  unfold argsOk at hok
  simp only [Bool.and_eq_true, List.all_eq_true, blt_t] at hok
  obtain ⟨o1, o2⟩ := hok
  have hlen := AV.reps_len hargs
  let C : Cx := ⟨P, w, M, Z, ⟨pre.length, moved post⟩, fn.ntmps⟩
  have hmv : moved post ≤ pre.length := by
    have : ∀ l : List (Option Blk), moved l ≤ l.length := by
      intro l
      induction l with
      | nil => exact Nat.le_refl _
      | cons x l ih => cases x <;> simp [moved]; omega
    have := this post
    omega
  have hH : ∀ i b, (St0 args pre).HF i = some b → (i, b) ∈ numd 0 pre := fun i b h => getH_numdO 0 pre i b h
  have hlt : ∀ i b, (i, b) ∈ numd 0 pre → i < pre.length ∧ b ∈ pre := by
    intro i b h
    have h1 := (numd_mem.1 h).2
    rw [Nat.sub_zero] at h1
    refine ⟨?_, List.mem_of_getElem? h1⟩
    rcases Nat.lt_or_ge i pre.length with h' | h'
    · exact h'
    · rw [List.getElem?_eq_none h'] at h1; cases h1
  have hB : ∀ q, q < w.heap.size → Own C (St0 args pre).HF Z q → M q := by
    rintro q _ (h0 | ⟨i, b, h1, h2⟩)
    · exact h0
    · exact (hpre i b (hH i b h1)).2 q h2
  have S : Sim C (St0 args pre) { tmps := us.toArray ++ Array.replicate (fn.ntmps - us.toArray.size) undef, defers := [] } w := by
    refine ⟨Z, by simp [C]; omega, rfl, Upto.refl _, hM, fun t => ?_, fun t i hi => ?_, fun i b hb => ?_, fun i j b c hi hj hij => ?_, fun i b x hi hx => .inl (hlt i b (hH i b hi)).1, hmv, fun i hi => ⟨rfl, hi⟩⟩
    · show (get (numE 0 args) t).rep _ _ _ _
      rw [get_numE, if_pos (Nat.zero_le _), Nat.sub_zero, List.getD_eq_getElem?_getD]
      cases ht : args[t]? with
      | none => simp only [Option.getD_none, AV.rep]
      | some x =>
        obtain ⟨u, hu, hr⟩ := AV.reps_get hargs ht
        simp only [Option.getD_some]
        refine AV.rep_mono (Upto.refl _) hB x (fun _ _ => rfl) _ ?_
        have htl : t < us.length := by
          rcases Nat.lt_or_ge t us.length with h' | h'
          · exact h'
          · rw [List.getElem?_eq_none h'] at hu; cases hu
        have : (us.toArray ++ Array.replicate (fn.ntmps - us.toArray.size) undef).getD t undef = u := by
          rw [Array.getD_eq_getD_getElem?, Array.getElem?_append_left (by simpa using htl)]
          simp [hu]
        rw [this]; exact hr
    · have hi' : i ∈ (get (numE 0 args) t).ids := hi
      rw [get_numE, if_pos (Nat.zero_le _), Nat.sub_zero, List.getD_eq_getElem?_getD] at hi'
      cases ht : args[t]? with
      | none => rw [ht] at hi'; simp [AV.ids] at hi'
      | some x => rw [ht] at hi'; exact o1 i (idss_mem (List.mem_of_getElem? ht) hi')
    · have h1 := hH i b hb
      obtain ⟨h2, h3⟩ := hlt i b h1
      exact ⟨(hpre i b h1).1.anti hB, h2, fun j hj => o2 b h3 j hj⟩
    · exact hdist i j b c (hH i b hi) (hH j c hj) hij
  refine calls_of_wp hf hb (Code.wp_mono (fun e a' w' ⟨S', ⟨he, hr⟩, hS'⟩ => ?_) (h C rfl rfl rfl _ _ S))
  obtain ⟨v, hv, hA⟩ := ret_after (pre := pre) (k := k) hS' hpl rfl hk hr
  have hdf : a'.defers = [] := by obtain ⟨Z, h⟩ := hS'; exact h.defers
  rcases he with rfl | rfl
  · exact ⟨hdf, v, hv, v, rfl, hA⟩
  · exact ⟨hdf, v, hv, v, rfl, hA⟩
end Go.Ab
