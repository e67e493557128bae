/- The second layer: calls. No conditions. -/
import Derived.Test.YtabgmodllifgjaaAb11
namespace Go.Ab
open Go.RowKit
set_option linter.unusedVariables false
set_option linter.unusedSimpArgs false

def callB (P : Program) (f : FuncId) : Bool := match P.funcs[f]? with | some fn => !(fn.name == "runtime.NumGoroutine") && fn.body.isSome | none => false
theorem exec_call {P : Program} {f : FuncId} {xs : Array Operand} {ats : Array TypeId} {d : Option Tmp} {ty : TypeId} {pos : String} {af : Array Edge} {g : Option (Nat × Bool)} (hf : callB P f = true) (a : Act) (w : World) :
    (execOp a.eval ⟨d, .call { callee := .value (.func f), args := xs, argTypes := ats }, ty, pos, af, g⟩).run P w = .ok (.enter f (xs.map a.eval)) w := by
  unfold callB at hf
  split at hf
  · rename_i fn hfn
    rw [Bool.and_eq_true] at hf
    have h1 : (fn.name == "runtime.NumGoroutine") = false := by simpa using hf.1
    have h2 : fn.body.isNone = false := by cases hb : fn.body <;> simp_all
    have h3 : (callFunc f (xs.map a.eval)).run P w = .ok (.enter f (xs.map a.eval)) w := by
      unfold callFunc
      simp only [program, Sem.run_bind, Sem.run, Result.andThen_ok, hfn, h1, h2]
      simp
    have h4 : a.eval (.func f) = .func (.func f) #[] #[] := rfl
    simp only [execOp, resolve, h4, Deferred.ofValue, Sem.run_bind, Sem.run_pure, Result.andThen_ok, invoke]
    simpa using h3
  · cases hf

section
variable {H : Nat → Option Blk} {ρ : Nat → Nat} {G : List Nat} {env : Nat → AV} {x : Operand} {as ds : List AV}
theorem cl_nil : CfL H ρ G [] [] := .nil
theorem cl_r {c c' : RV} (h : CfL H ρ G as ds) (e : c = c') (hx : evA env x = .r c) : CfL H ρ G (evA env x :: as) (.r c' :: ds) := by subst e; rw [hx]; exact .cons _ _ _ _ (.r _) h
theorem cl_int {k : IntKind} {m p : Int} (h : CfL H ρ G as ds) (e : m = p) (hx : evA env x = .r (.v (.int k m))) : CfL H ρ G (evA env x :: as) (.r (.v (.int k p)) :: ds) := cl_r h (by rw [e]) hx
theorem cl_pt {i j o : Nat} (h : CfL H ρ G as ds) (e : ρ i = j) (hx : evA env x = .pt j o) : CfL H ρ G (evA env x :: as) (.pt i o :: ds) := by subst e; rw [hx]; exact .cons _ _ _ _ (.pt _ _) h
theorem cl_ow {i j : Nat} (h : CfL H ρ G as ds) (e : ρ i = j) (hx : evA env x = .ow j) : CfL H ρ G (evA env x :: as) (.ow i :: ds) := by subst e; rw [hx]; exact .cons _ _ _ _ (.ow _) h
theorem cl_fzf {j T sz : Nat} {es es' : List (List RV)} (h : CfL H ρ G as ds) (e : es = es') (hg : j ∈ G) (hj : H j = some (.full T sz es)) (hx : evA env x = .ow j) : CfL H ρ G (evA env x :: as) (.r (.sl sz es') :: ds) := by subst e; rw [hx]; exact .cons _ _ _ _ (.fzf _ _ _ _ hj hg) h
theorem cl_nl {sz : Nat} (h : CfL H ρ G as ds) (hx : evA env x = .r (.v (.slice none 0 0))) : CfL H ρ G (evA env x :: as) (.r (.sl sz []) :: ds) := by rw [hx]; exact .cons _ _ _ _ (.nl _) h
theorem cl_fz {j T sz : Nat} {es es' : List (List RV)} (h : CfL H ρ G as ds) (e : es = es') (hg : j ∈ G) (hj : H j = some (.row T sz es)) (hx : evA env x = .ow j) : CfL H ρ G (evA env x :: as) (.r (.sl sz es') :: ds) := by subst e; rw [hx]; exact .cons _ _ _ _ (.fz _ _ _ _ hj hg) h
end

/-- That a value bears no slice that is only read. -/
def RV.val (c : RV) : Prop := ∃ x, c = .v x
mutual
def AV.vals : AV → Prop
  | .r c => c.val
  | .rp _ => False
  | .fr _ _ es => ∀ e ∈ es, ∀ c ∈ e, c.val
  | .ag cs => AV.valss cs
  | .tu cs => AV.valss cs
  | _ => True
def AV.valss : List AV → Prop
  | [] => True
  | c :: cs => c.vals ∧ AV.valss cs
end
section
variable {B B' : Nat → Prop} {Z : Nat → Value} {w : World}
theorem RVs.vals {cs : List RV} {us : List Value} (h : RVs B w cs us) (hv : ∀ c ∈ cs, c.val) : RVs B' w cs us := by
  induction h with
  | nil => exact .nil
  | cons h1 h2 _ ih =>
    refine .cons h1 ?_ (ih fun c hc => hv c (by simp [hc]))
    obtain ⟨x, rfl⟩ := hv _ (List.mem_cons_self)
    rw [RV.rep] at h2 ⊢; exact h2
mutual
theorem AV.rep_vals : ∀ (a : AV) (_ : a.vals) (k : Nat) (u : Value), (a.unfr k).1.rep Z B w u → (a.unfr k).1.rep Z B' w u
  | .r c, h, k, u, hr => by
    obtain ⟨x, rfl⟩ : c.val := by simpa only [AV.vals] using h
    simp only [AV.unfr, AV.rep, RV.rep] at hr ⊢; exact hr
  | .rp cs, h, k, u, hr => by simp only [AV.vals] at h
  | .ow i, h, k, u, hr => by simp only [AV.unfr, AV.rep] at hr ⊢; exact hr
  | .pt i o, h, k, u, hr => by simp only [AV.unfr, AV.rep] at hr ⊢; exact hr
  | .pe i sz q f, h, k, u, hr => by simp only [AV.unfr, AV.rep] at hr ⊢; exact hr
  | .fr T sz es, h, k, u, hr => by simp only [AV.unfr, AV.rep] at hr ⊢; exact hr
  | .na, h, k, u, hr => by simp only [AV.unfr, AV.rep]
  | .ol i n, h, k, u, hr => by simp only [AV.unfr, AV.rep] at hr ⊢; exact hr
  | .sv i n, h, k, u, hr => by simp only [AV.unfr, AV.rep] at hr ⊢; exact hr
  | .ag cs, h, k, u, hr => by
    simp only [AV.unfr, AV.rep] at hr ⊢
    obtain ⟨us, e, h1⟩ := hr
    exact ⟨us, e, AV.reps_vals cs (by simpa only [AV.vals] using h) k _ h1⟩
  | .tu cs, h, k, u, hr => by
    simp only [AV.unfr, AV.rep] at hr ⊢
    obtain ⟨us, e, h1⟩ := hr
    exact ⟨us, e, AV.reps_vals cs (by simpa only [AV.vals] using h) k _ h1⟩
theorem AV.reps_vals : ∀ (as : List AV) (_ : AV.valss as) (k : Nat) (us : List Value), AV.reps Z B w (AV.unfrs as k).1 us → AV.reps Z B' w (AV.unfrs as k).1 us
  | [], _, k, us, h => by simp only [AV.unfrs, AV.reps] at h ⊢; exact h
  | a :: as, hv, k, us, h => by
    simp only [AV.valss] at hv
    simp only [AV.unfrs, AV.reps] at h ⊢
    obtain ⟨u, us', e, h1, h2⟩ := h
    exact ⟨u, us', e, AV.rep_vals a hv.1 k u h1, AV.reps_vals as hv.2 _ us' h2⟩
end
mutual
theorem unfr_row : ∀ (a : AV) (k : Nat), ∀ b ∈ (a.unfr k).2, ∃ T sz es, b = .row T sz es ∧ (a.vals → ∀ e ∈ es, ∀ c ∈ e, c.val)
  | .r c, k, b, h => by simp [AV.unfr] at h
  | .rp c, k, b, h => by simp [AV.unfr] at h
  | .ow i, k, b, h => by simp [AV.unfr] at h
  | .pt i o, k, b, h => by simp [AV.unfr] at h
  | .pe i sz q f, k, b, h => by simp [AV.unfr] at h
  | .fr T sz es, k, b, h => by
    simp only [AV.unfr, List.mem_cons, List.not_mem_nil, or_false] at h
    exact ⟨T, sz, es, h, fun hv => by simpa only [AV.vals] using hv⟩
  | .na, k, b, h => by simp [AV.unfr] at h
  | .ol i n, k, b, h => by simp [AV.unfr] at h
  | .sv i n, k, b, h => by simp [AV.unfr] at h
  | .ag cs, k, b, h => by
    simp only [AV.unfr] at h
    obtain ⟨T, sz, es, e, hv⟩ := unfrs_row cs k b h
    exact ⟨T, sz, es, e, fun h => hv (by simpa only [AV.vals] using h)⟩
  | .tu cs, k, b, h => by
    simp only [AV.unfr] at h
    obtain ⟨T, sz, es, e, hv⟩ := unfrs_row cs k b h
    exact ⟨T, sz, es, e, fun h => hv (by simpa only [AV.vals] using h)⟩
theorem unfrs_row : ∀ (as : List AV) (k : Nat), ∀ b ∈ (AV.unfrs as k).2, ∃ T sz es, b = .row T sz es ∧ (AV.valss as → ∀ e ∈ es, ∀ c ∈ e, c.val)
  | [], k, b, h => by simp [AV.unfrs] at h
  | a :: as, k, b, h => by
    simp only [AV.unfrs, List.mem_append] at h
    rcases h with h | h
    · obtain ⟨T, sz, es, e, hv⟩ := unfr_row a k b h
      exact ⟨T, sz, es, e, fun h => hv (by simp only [AV.valss] at h; exact h.1)⟩
    · obtain ⟨T, sz, es, e, hv⟩ := unfrs_row as _ b h
      exact ⟨T, sz, es, e, fun h => hv (by simp only [AV.valss] at h; exact h.2)⟩
end
end

section
variable {P : Program} {L : Ln} {N : Nat} {ops : Array Oper} {chk : List (Nat × Sp) → Bool} {Q : St → Prop} {l : List Oper} {E : List (Nat × AV)} {H : List (Nat × Option Blk)} {n : Nat} {tr : List (Nat × Sp)}
variable {d : Nat} {ty : TypeId} {pos : String} {af : Array Edge} {g : Option (Nat × Bool)}

def rngB (a : AV) (n m : Nat) : Bool := a.ids.all fun i => Nat.ble n i && Nat.blt i (n + m)
/-- A CALL whose arguments are only read: 'G' names the own slices among them (then nothing of what comes back may be a slice that is only read). -/
theorem w_call {f : FuncId} {xs : Array Operand} {ats : Array TypeId} {ds : List AV} {r : AV} (G : List Nat) (rd : List (Nat × Blk)) (hm : Meets P f ds [] r []) (hargs : CfL (getH H) (fun i => i) G (xs.toList.map (evA (get E))) ds) (hf : callB P f = true)
    (hrd : ∀ g ∈ G, ∃ b, (g, b) ∈ rd ∧ getH H g = some b) (hrd2 : ∀ i b, (i, b) ∈ rd → getH H i = some b) (hv : G = [] ∨ r.vals) (hds : AV.idss ds = []) (hrng : rngB (r.unfr n).1 n (r.unfr n).2.length = true)
    (hd : Nat.blt d N = true) (hg : Wanted ops (get E) ⟨some d, .call { callee := .value (.func f), args := xs, argTypes := ats }, ty, pos, af, g⟩ true)
    (h : wpA P L N ops chk Q l ⟨(d, (r.unfr n).1) :: E, frsL n (r.unfr n).2 ++ H, n + (r.unfr n).2.length⟩ ((n, ⟨true, rd, (r.unfr n).1, [], (r.unfr n).2⟩) :: tr)) :
    wpA P L N ops chk Q (⟨some d, .call { callee := .value (.func f), args := xs, argTypes := ats }, ty, pos, af, g⟩ :: l) ⟨E, H, n⟩ tr := by
  refine ⟨⟨true, rd, (r.unfr n).1, [], (r.unfr n).2⟩, ⟨fun x hx => ?_, hg, fun _ a w Z M hM hr hh hdist => ?_, (fun h => by cases h), fun D hD hDH hfree => ?_⟩, h⟩
  · injection hx with hx; subst hx; exact blt_t.1 hd
  · have hr' : ∀ x ∈ xs.toList, (evA (get E) x).rep Z M w (a.eval x) := fun x hx => hr x (by show x ∈ (#[Operand.func f] ++ xs).toList; rw [Array.toList_append]; exact List.mem_append_right _ hx)
    have hreps : AV.reps Z M w (xs.toList.map (evA (get E))) (xs.toList.map a.eval) := by
      revert hr'
      generalize xs.toList = ys
      intro hr'
      induction ys with
      | nil => rw [List.map_nil, AV.reps]; rfl
      | cons y ys ih => rw [List.map_cons, List.map_cons, AV.reps]; exact ⟨_, _, rfl, hr' y (by simp), ih fun x hx => hr' x (by simp [hx])⟩
    have hargs' := CfL.reps (Z := Z) (Z' := Z) (B := M) (B' := fun q => M q ∧ ∀ g ∈ G, blk (Z g) ≠ some q) (w := w) (fun _ _ h => h.1) (fun j b hj hb => by
      obtain ⟨b', h1, h2⟩ := hrd j hj
      rw [hb] at h2
      injection h2 with h2
      subst h2
      exact ⟨(hh j b h1).1, fun x hx hn => hn.2 j hj hx⟩) hargs (fun _ _ => rfl) _ hreps
    have hc := hm w Z (fun q => M q ∧ ∀ g ∈ G, blk (Z g) ≠ some q) n (xs.toList.map a.eval) (fun q hq => hM q hq.1) (Nat.zero_le _) hargs' (fun i b h => by simp [numd] at h) (fun i j b c h => by simp [numd] at h)
    refine exec_enter (exec_call hf a w) ?_
    have he : (xs.toList.map a.eval).toArray = xs.map a.eval := by rw [← Array.toList_map]
    rw [he] at hc
    refine hc.mono fun e w' ⟨v, h1, Z1, A⟩ => ⟨v, h1, Z1, ?_⟩
    have hN : ∀ q, New n (callSp n [] r []) Z1 (fun q => M q ∧ ∀ g ∈ G, blk (Z g) ≠ some q) q → New n ⟨true, rd, (r.unfr n).1, [], (r.unfr n).2⟩ Z1 M q := fun q hq => hq.imp (fun h => h.1) id
    have hN2 : G = [] → ∀ q, New n ⟨true, rd, (r.unfr n).1, [], (r.unfr n).2⟩ Z1 M q → New n (callSp n [] r []) Z1 (fun q => M q ∧ ∀ g ∈ G, blk (Z g) ≠ some q) q := fun e q hq => hq.imp (fun h => ⟨h, fun g hg => by rw [e] at hg; cases hg⟩) id
    refine ⟨A.z, ?_, fun i b h => by simp at h, fun j b hj => ?_, A.dist, fun j x hj hx => ?_, A.upto.mono fun x _ ⟨i, o, hi, _⟩ => by simp [callSp, numdP] at hi⟩
    · rcases hv with e | hv
      · exact AV.rep_mono (Upto.refl _) (fun q _ hq => hN2 e q hq) _ (fun _ _ => rfl) _ A.out
      · exact AV.rep_vals r hv n v A.out
    · have h2 := A.fr j b hj
      obtain ⟨T, sz, es, rfl, hes⟩ := unfr_row r n b (List.mem_of_getElem? hj)
      rcases hv with e | hv
      · exact h2.anti fun q _ hq => hN2 e q hq
      · obtain ⟨us, g1, g2, g3⟩ := h2
        exact ⟨us, g1, g2.vals fun c hc => by
          obtain ⟨e, he, hce⟩ := List.mem_flatten.1 hc
          exact hes hv e he c hce, g3⟩
    · rcases A.fresh j x hj hx with h | ⟨i, hi, _⟩
      · exact .inl h
      · simp [callSp, numdP] at hi
  · refine ⟨hrd2, fun i o h => by simp at h, fun i o h => by simp at h, fun i h => by simp at h, hfree, fun i hi => .inr ?_, fun b hb i hi => ?_, fun i b h => by simp at h⟩
    · have := List.all_eq_true.1 hrng i hi
      rw [Bool.and_eq_true, ble_t, blt_t] at this
      exact this
    · obtain ⟨T, sz, es, rfl, _⟩ := unfr_row r n b hb
      simp [Blk.ids] at hi

def pairs : List Nat → List (Option Blk) → List (Nat × Option Blk)
  | j :: js, b :: bs => (j, b) :: pairs js bs
  | _, _ => []
theorem pairs_mem : ∀ {js : List Nat} {bs : List (Option Blk)} {i : Nat} {b : Option Blk}, (i, b) ∈ pairs js bs ↔ ∃ q : Nat, js[q]? = some i ∧ bs[q]? = some b
  | [], bs, i, b => by simp [pairs]
  | j :: js, [], i, b => by simp [pairs]
  | j :: js, c :: bs, i, b => by
    rw [pairs, List.mem_cons, pairs_mem (js := js) (bs := bs)]
    constructor
    · rintro (e | ⟨q, h1, h2⟩)
      · injection e with e1 e2; subst e1 e2; exact ⟨0, rfl, rfl⟩
      · exact ⟨q + 1, by simpa using h1, by simpa using h2⟩
    · rintro ⟨q, h1, h2⟩
      cases q with
      | zero => simp at h1 h2; subst h1 h2; exact .inl rfl
      | succ q => exact .inr ⟨q, by simpa using h1, by simpa using h2⟩
def rdOf : List Nat → List Blk → List (Nat × Blk)
  | j :: js, b :: bs => (j, b) :: rdOf js bs
  | _, _ => []
theorem rdOf_mem : ∀ {js : List Nat} {bs : List Blk} {i : Nat} {b : Blk}, (i, b) ∈ rdOf js bs ↔ ∃ q : Nat, js[q]? = some i ∧ bs[q]? = some b
  | [], bs, i, b => by simp [rdOf]
  | j :: js, [], i, b => by simp [rdOf]
  | j :: js, c :: bs, i, b => by
    rw [rdOf, List.mem_cons, rdOf_mem (js := js) (bs := bs)]
    constructor
    · rintro (e | ⟨q, h1, h2⟩)
      · injection e with e1 e2; subst e1 e2; exact ⟨0, rfl, rfl⟩
      · exact ⟨q + 1, by simpa using h1, by simpa using h2⟩
    · rintro ⟨q, h1, h2⟩
      cases q with
      | zero => simp at h1 h2; subst h1 h2; exact .inl rfl
      | succ q => exact .inr ⟨q, by simpa using h1, by simpa using h2⟩
theorem pairs_lookup : ∀ {js : List Nat} {bs : List (Option Blk)} {i : Nat} {b : Option Blk}, js.Nodup → (i, b) ∈ pairs js bs → (pairs js bs).lookup i = some b
  | [], bs, i, b, _, h => by simp [pairs] at h
  | j :: js, [], i, b, _, h => by simp [pairs] at h
  | j :: js, c :: bs, i, b, hn, h => by
    rw [List.nodup_cons] at hn
    rw [pairs, List.mem_cons] at h
    rw [pairs, List.lookup_cons]
    rcases h with e | h
    · injection e with e1 e2; subst e1 e2; simp
    · have hne : i ≠ j := by
        rintro rfl
        obtain ⟨q, h1, _⟩ := pairs_mem.1 h
        exact hn.1 (List.mem_of_getElem? h1)
      have : (i == j) = false := by simpa using hne
      rw [this]
      exact pairs_lookup hn.2 h
theorem held_move {Z Z' : Nat → Value} {B B' : Nat → Prop} {w : World} {i i' : Nat} {b : Blk} (h : held Z B w i b) (hz : Z' i' = Z i) (hid : b.ids = []) (hB : ∀ q, q < w.heap.size → B' q → B q) : held Z' B' w i' b := by
  cases b with
  | row T sz es =>
    obtain ⟨us, h1, h2, h3⟩ := h
    exact ⟨us, by rw [hz]; exact h1, h2.mono (Upto.refl _) hB, h3⟩
  | full T sz es =>
    obtain ⟨q, us, fr, h1, h2, h3, h4, h5⟩ := h
    exact ⟨q, us, fr, hz.trans h1, h2, h3, h4.mono (Upto.refl _) hB, h5⟩
  | var T cs =>
    obtain ⟨q, us, h1, h2, h3, h4⟩ := h
    exact ⟨q, us, hz.trans h1, h2, AV.reps_mono (Upto.refl _) hB cs (fun j hj => by rw [show AV.idss cs = [] from hid] at hj; cases hj) _ h3, h4⟩
  | rowk T sz es n c =>
    obtain ⟨g, us, h1, h2, h3, h4, h5⟩ := h
    exact ⟨g, us, hz.trans h1, h2, h3, h4.mono (Upto.refl _) hB, h5⟩
def preB (J : List Nat) (n : Nat) (pre : List Blk) (post : List (Option Blk)) (ds : List AV) (L : Ln) : Bool :=
  Nat.ble J.length n && (J.all fun j => Nat.blt j n) && decide J.Nodup && Nat.beq pre.length J.length && Nat.beq post.length J.length && (pre.all fun b => b.ids.isEmpty) && (post.all fun b => match b with | some b => b.ids.isEmpty | none => true) &&
  ((AV.idss ds).all fun i => Nat.blt i J.length) && (pairs J post).all fun p => match p.2 with | none => Nat.blt p.1 L.m || Nat.ble L.n p.1 | some _ => true
theorem getD_of {J : List Nat} {q i : Nat} (h : J[q]? = some i) : J.getD q 0 = i := by rw [List.getD_eq_getElem?_getD, h]; rfl
theorem len_of {α : Type} {l : List α} {q : Nat} {x : α} (h : l[q]? = some x) : q < l.length := by
  rcases Nat.lt_or_ge q l.length with h' | h'
  · exact h'
  · rw [List.getElem?_eq_none h'] at h; cases h

/-- A CALL to which own blocks are lent or handed over: J tells which. -/
theorem w_callP {f : FuncId} {xs : Array Operand} {ats : Array TypeId} {ds : List AV} {r : AV} (J : List Nat) (pre : List Blk) (post : List (Option Blk)) (hm : Meets P f ds pre r post) (hargs : CfL (getH H) (fun i => J.getD i 0) [] (xs.toList.map (evA (get E))) ds) (hf : callB P f = true)
    (hH : ∀ i b, (i, b) ∈ rdOf J pre → getH H i = some b) (hpre : preB J n pre post ds L = true) (hrng : rngB (r.unfr n).1 n (r.unfr n).2.length = true)
    (hd : Nat.blt d N = true) (hg : Wanted ops (get E) ⟨some d, .call { callee := .value (.func f), args := xs, argTypes := ats }, ty, pos, af, g⟩ true)
    (h : wpA P L N ops chk Q l ⟨(d, (r.unfr n).1) :: E, frsL n (r.unfr n).2 ++ (pairs J post ++ H), n + (r.unfr n).2.length⟩ ((n, ⟨true, rdOf J pre, (r.unfr n).1, pairs J post, (r.unfr n).2⟩) :: tr)) :
    wpA P L N ops chk Q (⟨some d, .call { callee := .value (.func f), args := xs, argTypes := ats }, ty, pos, af, g⟩ :: l) ⟨E, H, n⟩ tr := by
  unfold preB at hpre
  simp only [Bool.and_eq_true, ble_t, List.all_eq_true, blt_t, decide_eq_true_eq] at hpre
  obtain ⟨⟨⟨⟨⟨⟨⟨⟨b1, b2⟩, b3⟩, b4⟩, b5⟩, b6⟩, b7⟩, b8⟩, b9⟩ := hpre
  have b4 := Nat.eq_of_beq_eq_true b4
  have b5 := Nat.eq_of_beq_eq_true b5
  have hmem : ∀ q, q < J.length → J.getD q 0 ∈ J := fun q hq => by rw [List.getD_eq_getElem?_getD, List.getElem?_eq_getElem hq]; exact List.getElem_mem hq
  have hJq : ∀ q, q < J.length → J[q]? = some (J.getD q 0) := fun q hq => by rw [List.getD_eq_getElem?_getD, List.getElem?_eq_getElem hq]; rfl
  refine ⟨⟨true, rdOf J pre, (r.unfr n).1, pairs J post, (r.unfr n).2⟩, ⟨fun x hx => ?_, hg, fun _ a w Z M hM hr hh hdist => ?_, (fun h => by cases h), fun D hD hDH hfree => ?_⟩, h⟩
  · injection hx with hx; subst hx; exact blt_t.1 hd
  · have hr' : ∀ x ∈ xs.toList, (evA (get E) x).rep Z M w (a.eval x) := fun x hx => hr x (by show x ∈ (#[Operand.func f] ++ xs).toList; rw [Array.toList_append]; exact List.mem_append_right _ hx)
    have hreps : AV.reps Z M w (xs.toList.map (evA (get E))) (xs.toList.map a.eval) := by
      revert hr'
      generalize xs.toList = ys
      intro hr'
      induction ys with
      | nil => rw [List.map_nil, AV.reps]; rfl
      | cons y ys ih => rw [List.map_cons, List.map_cons, AV.reps]; exact ⟨_, _, rfl, hr' y (by simp), ih fun x hx => hr' x (by simp [hx])⟩
    let Zc : Nat → Value := fun i => if i < J.length then Z (J.getD i 0) else Z i
    have hZc : ∀ i, i < J.length → Zc i = Z (J.getD i 0) := fun i hi => if_pos hi
    have hargs' := CfL.reps (Z := Z) (Z' := Zc) (B := M) (B' := M) (w := w) (fun _ _ h => h) (fun j b hj hb => by cases hj) hargs (fun i hi => hZc i (b8 i hi)) _ hreps
    have hrdq : ∀ i b, (i, b) ∈ numd 0 pre → i < J.length ∧ (J.getD i 0, b) ∈ rdOf J pre ∧ b ∈ pre := by
      intro i b hib
      have h1 := (numd_mem.1 hib).2
      rw [Nat.sub_zero] at h1
      have h2 := len_of h1
      exact ⟨by omega, rdOf_mem.2 ⟨i, hJq i (by omega), h1⟩, List.mem_of_getElem? h1⟩
    have hinj : ∀ i j, i < J.length → j < J.length → i ≠ j → J.getD i 0 ≠ J.getD j 0 := by
      intro i j hi hj hij he
      have h1 := hJq i hi
      have h2 := hJq j hj
      rw [List.getElem?_eq_getElem hi] at h1
      rw [List.getElem?_eq_getElem hj] at h2
      injection h1 with h1
      injection h2 with h2
      have hp := List.pairwise_iff_getElem.1 b3
      rcases Nat.lt_trichotomy i j with h | h | h
      · exact hp i j hi hj h (by rw [h1, h2, he])
      · exact hij h
      · exact hp j i hj hi h (by rw [h1, h2, he])
    have hc := hm w Zc M n (xs.toList.map a.eval) hM (by omega) hargs' (fun i b hib => by
      obtain ⟨h1, h2, h3⟩ := hrdq i b hib
      obtain ⟨h4, h5⟩ := hh _ b h2
      exact ⟨held_move h4 (hZc i h1) (by simpa using b6 b h3) (fun _ _ h => h), fun x hx => h5 x (by rw [← hZc i h1]; exact hx)⟩) (fun i j b c hi hj hij x hx => by
      obtain ⟨h1, h2, _⟩ := hrdq i b hi
      obtain ⟨h3, h4, _⟩ := hrdq j c hj
      rw [hZc i h1] at hx
      rw [hZc j h3]
      exact hdist _ _ b c h2 h4 (hinj i j h1 h3 hij) x hx)
    refine exec_enter (exec_call hf a w) ?_
    have he : (xs.toList.map a.eval).toArray = xs.map a.eval := by rw [← Array.toList_map]
    rw [he] at hc
    refine hc.mono fun e w' ⟨v, h1, Z1, A⟩ => ⟨v, h1, fun i => if n ≤ i ∧ i < n + (r.unfr n).2.length then Z1 i else Z i, ?_⟩
    generalize hZ2 : (fun i => if n ≤ i ∧ i < n + (r.unfr n).2.length then Z1 i else Z i) = Z2
    have z1 : ∀ i, n ≤ i → i < n + (r.unfr n).2.length → Z2 i = Z1 i := fun i h1 h2 => by rw [← hZ2]; exact if_pos ⟨h1, h2⟩
    have z2 : ∀ i, (i < n ∨ n + (r.unfr n).2.length ≤ i) → Z2 i = Z i := fun i h1 => by rw [← hZ2]; exact if_neg (by omega)
    have hN : ∀ q, q < w'.heap.size → New n ⟨true, rdOf J pre, (r.unfr n).1, pairs J post, (r.unfr n).2⟩ Z2 M q → New n (callSp n pre r post) Z1 M q := by
      rintro q _ (h0 | ⟨j, hj, hq⟩)
      · exact .inl h0
      · have hj' : j < (r.unfr n).2.length := hj
        rw [z1 (n + j) (by omega) (by omega)] at hq
        exact .inr ⟨j, hj, hq⟩
    have hup : ∀ j o, (j, o) ∈ pairs J post ↔ ∃ q, q < J.length ∧ J.getD q 0 = j ∧ (q, o) ∈ numdP 0 post := by
      intro j o
      rw [pairs_mem]
      constructor
      · rintro ⟨q, h1, h2⟩
        exact ⟨q, len_of h1, getD_of h1, numdP_mem.2 ⟨Nat.zero_le _, by simpa using h2⟩⟩
      · rintro ⟨q, h1, h2, h3⟩
        exact ⟨q, by rw [hJq q h1, h2], by simpa using (numdP_mem.1 h3).2⟩
    have hnl : ∀ q o, (q, o) ∈ numdP 0 post → q < J.length := fun q o h => by
      have := len_of (numdP_mem.1 h).2
      omega
    refine ⟨z2, ?_, fun j b hjb => ?_, fun j b hj => ?_, fun j j' x hj hj' hne h3 h4 => ?_, fun j x hj hx => ?_, A.upto.mono fun x _ ⟨i, o, hi, hx⟩ => ?_⟩
    · refine AV.rep_mono (Upto.refl _) hN _ (fun i hi => ?_) _ A.out
      have := List.all_eq_true.1 hrng i hi
      rw [Bool.and_eq_true, ble_t, blt_t] at this
      exact z1 i this.1 this.2
    · obtain ⟨q, h2, h3, h4⟩ := (hup j (some b)).1 hjb
      have h5 := A.up q b h4
      refine held_move h5 ?_ ?_ hN
      · rw [z2 j (.inl (b2 j (h3 ▸ hmem q h2))), A.z q (.inl (by omega)), hZc q h2, h3]
      · have h6 := (numdP_mem.1 h4).2
        have := b7 _ (List.mem_of_getElem? h6)
        simpa using this
    · obtain ⟨T, sz, es, rfl, _⟩ := unfr_row r n b (List.mem_of_getElem? hj)
      have hjl := len_of hj
      have hjl' : j < (r.unfr n).2.length := hjl
      exact held_move (A.fr j _ hj) (z1 (n + j) (by omega) (by omega)) rfl hN
    · have k1 : j < (r.unfr n).2.length := hj
      have k2 : j' < (r.unfr n).2.length := hj'
      have h3' : blk (Z2 (n + j)) = some x := h3
      have h4' : blk (Z2 (n + j')) = some x := h4
      rw [z1 (n + j) (by omega) (by omega)] at h3'
      rw [z1 (n + j') (by omega) (by omega)] at h4'
      exact A.dist j j' x hj hj' hne h3' h4'
    · have k1 : j < (r.unfr n).2.length := hj
      have hx' : blk (Z2 (n + j)) = some x := hx
      rw [z1 (n + j) (by omega) (by omega)] at hx'
      rcases A.fresh j x hj hx' with h | ⟨i, hi, hix⟩
      · exact .inl h
      · have k2 := hnl i _ hi
        rw [hZc i k2] at hix
        exact .inr ⟨J.getD i 0, (hup _ _).2 ⟨i, k2, rfl, hi⟩, hix⟩
    · have k2 := hnl i _ hi
      rw [hZc i k2] at hx
      exact ⟨J.getD i 0, o, (hup _ _).2 ⟨i, k2, rfl, hi⟩, hx⟩
  · refine ⟨hH, fun i o h => ?_, fun i o h => pairs_lookup b3 h, fun i h => ?_, hfree, fun i hi => .inr ?_, fun b hb i hi => ?_, fun i b hib i' hi' => ?_⟩
    · obtain ⟨q, h1, h2⟩ := pairs_mem.1 h
      have h3 := len_of h1
      exact ⟨pre[q]'(by omega), rdOf_mem.2 ⟨q, h1, List.getElem?_eq_getElem _⟩⟩
    · have := b9 _ h
      simp only [Bool.or_eq_true, blt_t, ble_t] at this
      exact this
    · have := List.all_eq_true.1 hrng i hi
      rw [Bool.and_eq_true, ble_t, blt_t] at this
      exact this
    · obtain ⟨T, sz, es, rfl, _⟩ := unfr_row r n b hb
      simp [Blk.ids] at hi
    · obtain ⟨q, h1, h2⟩ := pairs_mem.1 hib
      have := b7 _ (List.mem_of_getElem? h2)
      have : b.ids = [] := by simpa using this
      rw [this] at hi'
      cases hi'
end
end Go.Ab
