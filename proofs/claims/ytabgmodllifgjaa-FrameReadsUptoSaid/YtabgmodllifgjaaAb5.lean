/- The second layer: code, loops, functions. No conditions. -/
import Derived.Test.YtabgmodllifgjaaAb4
import Derived.Deep.WholeRow
namespace Go.Ab
open Go.RowKit
set_option linter.unusedVariables false

def awp (P : Program) (L : Ln) (N : Nat) (c : Code) (Q : Exit → St → Prop) (S : St) : Prop :=
  ∀ (C : Cx), C.P = P → C.ln = L → C.N = N → ∀ a w, Sim C S a w → c.wp P (fun e a' w' => ∃ S', Q e S' ∧ Sim C S' a' w') a w

def thenA (next : St → Prop) (Q : Exit → St → Prop) : Exit → St → Prop
  | .normal, S => next S
  | e, S => Q e S
def blockA (id : Nat) (Q : Exit → St → Prop) : Exit → St → Prop
  | .exit id', S => bif Nat.beq id' id then Q .normal S else Q (.exit id') S
  | e, S => Q e S

section
variable {P : Program} {L : Ln} {N : Nat} {Q : Exit → St → Prop} {S : St}
theorem awp_mono {c : Code} {Q' : Exit → St → Prop} (h : awp P L N c Q S) (hq : ∀ e S, Q e S → Q' e S) : awp P L N c Q' S :=
  fun C h1 h2 h3 a w hs => Code.wp_mono (fun e a' w' ⟨S', h4, h5⟩ => ⟨S', hq e S' h4, h5⟩) (h C h1 h2 h3 a w hs)
theorem awp_seq {x y : Code} (h : awp P L N x (thenA (awp P L N y Q) Q) S) : awp P L N (.seq x y) Q S := by
  intro C h1 h2 h3 a w hs
  refine wp_seq (Code.wp_mono (fun e a' w' ⟨S', h4, h5⟩ => ?_) (h C h1 h2 h3 a w hs))
  cases e with
  | normal => exact h4 C h1 h2 h3 a' w' h5
  | exit id => exact ⟨S', h4, h5⟩
  | goto l => exact ⟨S', h4, h5⟩
  | ret => exact ⟨S', h4, h5⟩
  | panic ch => exact ⟨S', h4, h5⟩
  | outgrown => exact ⟨S', h4, h5⟩
theorem awp_skip (h : Q .normal S) : awp P L N .skip Q S := fun C h1 h2 h3 a w hs => wp_skip ⟨S, h, hs⟩
theorem awp_exit {id : Nat} (h : Q (.exit id) S) : awp P L N (.exit id) Q S := fun C h1 h2 h3 a w hs => wp_exit ⟨S, h, hs⟩
theorem awp_ret (h : Q .ret S) : awp P L N .ret Q S := fun C h1 h2 h3 a w hs => wp_ret ⟨S, h, hs⟩
theorem awp_block {id : Nat} {c : Code} (h : awp P L N c (blockA id Q) S) : awp P L N (.block id c) Q S := by
  intro C h1 h2 h3 a w hs
  refine wp_block (Code.wp_mono (fun e a' w' ⟨S', h4, h5⟩ => ?_) (h C h1 h2 h3 a w hs))
  cases e with
  | normal => exact ⟨S', h4, h5⟩
  | exit id' =>
    simp only [Exit.inBlock]
    simp only [blockA] at h4
    by_cases hid : id' = id
    · subst hid
      rw [if_pos rfl]
      rw [show Nat.beq id' id' = true by simp] at h4
      exact ⟨S', h4, h5⟩
    · rw [if_neg hid]
      have : Nat.beq id' id = false := by cases hb : Nat.beq id' id with
        | false => rfl
        | true => exact absurd (Nat.eq_of_beq_eq_true hb) hid
      rw [this] at h4
      exact ⟨S', h4, h5⟩
  | goto l => exact ⟨S', h4, h5⟩
  | ret => exact ⟨S', h4, h5⟩
  | panic ch => exact ⟨S', h4, h5⟩
  | outgrown => exact ⟨S', h4, h5⟩
theorem awp_cond {c : Operand} {x y : Code} {b : Bool} (hc : evA S.envF c = .r (.v (.bool b))) (ht : b = true → awp P L N x Q S) (hf : b = false → awp P L N y Q S) : awp P L N (.cond c x y) Q S := by
  intro C h1 h2 h3 a w hs
  obtain ⟨Z, hS⟩ := hs
  have he := hS.ev c
  rw [hc, AV.rep, RV.rep] at he
  exact wp_cond_split he (fun h => ht h C h1 h2 h3 a w ⟨Z, hS⟩) (fun h => hf h C h1 h2 h3 a w ⟨Z, hS⟩)
theorem awp_text {id : Nat} {l : List Oper} (h : wpA P L N l.toArray (fun _ => true) (Q .normal) l S []) : awp P L N (.region id l.toArray false) Q S := by
  intro C h1 h2 h3 a w hs
  subst h1 h2 h3
  exact wp_region_lit (wpList_of_wpA rfl (fun S' a' w' h4 h5 => ⟨S', h4, h5⟩) l S [] a w h hs)
theorem awp_any {id : Nat} {l : List Oper} (hm : P.follows .mixedOrders = true) (h : wpA P L N l.toArray (chkAll l.toArray S.nx) (Q .normal) l S []) : awp P L N (.region id l.toArray true) Q S := by
  intro C h1 h2 h3 a w hs
  subst h1 h2 h3
  exact wp_region_A rfl hm (by simpa using h) hs (fun S' a' w' h4 h5 => ⟨S', h4, h5⟩)

theorem awp_loop {c : Code} (I : St → Prop) (μ : St → Nat) (h0 : I S) (round : ∀ S, I S → awp P L N c (thenA (fun S' => I S' ∧ μ S' < μ S) Q) S) : awp P L N (.loop c) Q S := by
  intro C h1 h2 h3 a w hs b k cs
  have key : ∀ n a w, (∃ S, I S ∧ Sim C S a w ∧ μ S = n) → ∃ e a' w', (∃ S', Q e S' ∧ Sim C S' a' w') ∧ Arrives P (lone (b.at a (.code c :: .inLoop c :: k)) cs w) b k cs e a' w' := by
    intro n
    induction n using Nat.strongRecOn with
    | _ n ih =>
      rintro a w ⟨S, hI, hS, rfl⟩
      obtain ⟨e, a1, w1, ⟨S1, hq, hS1⟩, harr⟩ := round S hI C h1 h2 h3 a w hS b (.inLoop c :: k) cs
      cases e with
      | normal =>
        obtain ⟨hI1, hlt⟩ := hq
        obtain ⟨e2, a2, w2, hq2, harr2⟩ := ih (μ S1) hlt a1 w1 ⟨S1, hI1, hS1, rfl⟩
        exact ⟨e2, a2, w2, hq2, .of_steps (Steps.trans harr (.one step_inLoop)) harr2⟩
      | exit id => exact ⟨_, a1, w1, ⟨S1, hq, hS1⟩, .pass (x := .inLoop c) rfl (fun _ _ => .inl (by simp)) harr⟩
      | goto l => exact ⟨_, a1, w1, ⟨S1, hq, hS1⟩, .pass (x := .inLoop c) rfl (fun _ _ => .inl (by simp)) harr⟩
      | ret => exact ⟨_, a1, w1, ⟨S1, hq, hS1⟩, .pass (x := .inLoop c) rfl (fun _ _ => .inl (by simp)) harr⟩
      | panic ch => exact ⟨_, a1, w1, ⟨S1, hq, hS1⟩, .pass (x := .inLoop c) rfl (fun _ _ => .inl (by simp)) harr⟩
      | outgrown => exact ⟨_, a1, w1, ⟨S1, hq, hS1⟩, .pass (x := .inLoop c) rfl (fun _ _ => .inl (by simp)) harr⟩
  obtain ⟨e, a', w', hq, harr⟩ := key _ a w ⟨S, h0, hs, rfl⟩
  exact ⟨e, a', w', hq, .of_steps (.one step_loop) harr⟩
end

/-! ## Knowing less, under other numbers -/
mutual
inductive Cf (H : Nat → Option Blk) (ρ : Nat → Nat) (G : List Nat) : AV → AV → Prop
  | na (a) : Cf H ρ G a .na
  | r (c) : Cf H ρ G (.r c) (.r c)
  | rp (cs) : Cf H ρ G (.rp cs) (.rp cs)
  | ow (i) : Cf H ρ G (.ow (ρ i)) (.ow i)
  | pt (i o) : Cf H ρ G (.pt (ρ i) o) (.pt i o)
  | pe (i sz k f) : Cf H ρ G (.pe (ρ i) sz k f) (.pe i sz k f)
  | fz (j T sz es) : H j = some (.row T sz es) → j ∈ G → Cf H ρ G (.ow j) (.r (.sl sz es))
  | fzf (j T sz es) : H j = some (.full T sz es) → j ∈ G → Cf H ρ G (.ow j) (.r (.sl sz es))
  | fzk (j T sz es n c) : H j = some (.rowk T sz es n c) → j ∈ G → Cf H ρ G (.ow j) (.r (.sl sz (es.take n)))
  | fzl (j T sz es n c m) : H j = some (.rowk T sz es n c) → j ∈ G → m ≤ es.length → Cf H ρ G (.ol j m) (.r (.sl sz (es.take m)))
  | fzo (j T sz es m) : H j = some (.row T sz es) → j ∈ G → m ≤ es.length → Cf H ρ G (.ol j m) (.r (.sl sz (es.take m)))
  | ol (i n) : Cf H ρ G (.ol (ρ i) n) (.ol i n)
  | sv (i n) : Cf H ρ G (.sv (ρ i) n) (.sv i n)
  | nl (sz) : Cf H ρ G (.r (.v (.slice none 0 0))) (.r (.sl sz []))
  | ag (cs ds) : CfL H ρ G cs ds → Cf H ρ G (.ag cs) (.ag ds)
  | tu (cs ds) : CfL H ρ G cs ds → Cf H ρ G (.tu cs) (.tu ds)
inductive CfL (H : Nat → Option Blk) (ρ : Nat → Nat) (G : List Nat) : List AV → List AV → Prop
  | nil : CfL H ρ G [] []
  | cons (a d as ds) : Cf H ρ G a d → CfL H ρ G as ds → CfL H ρ G (a :: as) (d :: ds)
end

theorem rows_of_own {w : World} {T sz n : Nat} {v : Value} {us : List Value} {B B' : Nat → Prop} {es : List (List RV)} (h : w.ownsRow 0 T sz v es.length us) (hu : RVs B w es.flatten us) (he : ∀ e ∈ es, e.length = sz)
    (hB : ∀ k, k < w.heap.size → B' k → B k) (hb : ∀ x, blk v = some x → ¬ B' x) : RV.rep B' w (.sl sz es) v := by
  rw [RV.rep]
  rcases h.2 with ⟨e, h0⟩ | ⟨g, cap, cur, e, _, hg, h1, h2, h3, h4⟩
  · have : es = [] := List.eq_nil_of_length_eq_zero h0
    subst this
    exact ⟨none, 0, e, Nat.le_refl _, by unfold maxLen; omega, he, fun hn => absurd rfl hn⟩
  · refine ⟨_, cap, e, h1, h2, he, fun _ => ⟨_, rfl, heap_lt hg, hb g (by rw [e]; rfl), ?_⟩⟩
    rw [RV.rows_flat, RV.row_vals]
    refine ⟨us, hu.mono (Upto.refl _) hB, fun k u hk => ?_⟩
    have hc := cell_of_row w g k cur T (0, 0) hg
    have e2 : (⟨g, 0, none⟩ : Addr).add (0 + k) = ⟨g, k, none⟩ := by unfold Addr.add; by_cases h : k = 0 <;> simp [h]
    rw [e2, hc]
    rw [← h4, List.getElem?_take] at hk
    split at hk
    · simpa using hk
    · cases hk

theorem rows_of_full {w : World} {Z : Nat → Value} {i T sz : Nat} {B B' : Nat → Prop} {es : List (List RV)} (h : held Z B w i (.full T sz es)) (hB : ∀ k, k < w.heap.size → B' k → B k) (hb : ∀ x, blk (Z i) = some x → ¬ B' x) : RV.rep B' w (.sl sz es) (Z i) := by
  rw [RV.rep]
  obtain ⟨g, us, fr, e, hg, h1, h2, h3⟩ := h
  refine ⟨_, _, e, Nat.le_refl _, h1, h3, fun _ => ⟨_, rfl, heap_lt hg, hb g (by rw [e]; rfl), ?_⟩⟩
  rw [RV.rows_flat, RV.row_vals]
  refine ⟨us.toList, h2.mono (Upto.refl _) hB, fun k u hk => ?_⟩
  have hc := cell_of_row w g k us T fr hg
  have e2 : (⟨g, 0, none⟩ : Addr).add (0 + k) = ⟨g, k, none⟩ := by unfold Addr.add; by_cases h : k = 0 <;> simp [h]
  rw [e2, hc]
  simpa using hk
theorem rows_of_cut {w : World} {T sz m c : Nat} {g : Nat} {us : List Value} {B B' : Nat → Prop} {es : List (List RV)} (h : w.ownsRow 0 T sz (.slice (some ⟨g, 0, none⟩) es.length c) es.length us) (hm : m ≤ es.length) (hu : RVs B w es.flatten us) (he : ∀ e ∈ es, e.length = sz)
    (hB : ∀ k, k < w.heap.size → B' k → B k) (hb : ¬ B' g) : RV.rep B' w (.sl sz (es.take m)) (.slice (some ⟨g, 0, none⟩) m c) := by
  have h0 := rows_of_own (n := 0) h hu he hB (fun x hx => by simp [blk] at hx; subst hx; exact hb)
  rw [RV.rep] at h0 ⊢
  obtain ⟨A, c', e, h1, h2, h3, h4⟩ := h0
  injection e with e1 e2 e3
  subst e1 e3
  refine ⟨_, _, by rw [List.length_take, Nat.min_eq_left hm], by rw [List.length_take]; omega, h2, fun e he => h3 e (List.mem_of_mem_take he), fun hne => ?_⟩
  obtain ⟨ad, e, hlt, hnb, hr⟩ := h4 (fun e => hne (by rw [e]; simp))
  refine ⟨ad, e, hlt, hnb, ?_⟩
  rw [RV.rows_flat] at hr ⊢
  rw [(flatten_drop_take sz es he m).2]
  exact RV.row_take hr _
theorem rows_of_rowk {w : World} {Z : Nat → Value} {i T sz n c : Nat} {B B' : Nat → Prop} {es : List (List RV)} (h : held Z B w i (.rowk T sz es n c)) (hB : ∀ k, k < w.heap.size → B' k → B k) (hb : ∀ x, blk (Z i) = some x → ¬ B' x) : ∃ g, Z i = .slice (some ⟨g, 0, none⟩) n c ∧ n ≤ es.length ∧ ∀ m, m ≤ es.length → RV.rep B' w (.sl sz (es.take m)) (.slice (some ⟨g, 0, none⟩) m c) := by
  obtain ⟨g, us, e, h1, h2, h3, h4⟩ := h
  exact ⟨g, e, h2, fun m hm => rows_of_cut h1 hm h3 h4 hB (hb g (by rw [e]; rfl))⟩
section
variable {H : Nat → Option Blk} {ρ : Nat → Nat} {G : List Nat} {Z Z' : Nat → Value} {B B' : Nat → Prop} {w : World}
mutual
theorem Cf.rep (hB : ∀ k, k < w.heap.size → B' k → B k) (hG : ∀ j b, j ∈ G → H j = some b → held Z B w j b ∧ ∀ x, blk (Z j) = some x → ¬ B' x) :
    ∀ {a d : AV} (_ : Cf H ρ G a d) (_ : ∀ i ∈ d.ids, Z' i = Z (ρ i)) (u : Value), AV.rep Z B w a u → AV.rep Z' B' w d u
  | _, _, .na a, _, u, h => by simp only [AV.rep]
  | _, _, .r c, _, u, h => AV.rep_mono (Upto.refl _) hB _ (fun i hi => by simp [AV.ids] at hi) _ h
  | _, _, .rp c, _, u, h => AV.rep_mono (Upto.refl _) hB _ (fun i hi => by simp [AV.ids] at hi) _ h
  | _, _, .ow i, hz, u, h => by simp only [AV.rep] at h ⊢; rw [hz i (by simp [AV.ids])]; exact h
  | _, _, .pt i o, hz, u, h => by simp only [AV.rep] at h ⊢; rw [hz i (by simp [AV.ids])]; exact h
  | _, _, .pe i sz k f, hz, u, h => by simp only [AV.rep] at h ⊢; rw [hz i (by simp [AV.ids])]; exact h
  | _, _, .fz j T sz es hj hg, _, u, h => by
    simp only [AV.rep] at h ⊢
    subst h
    obtain ⟨⟨us, h1, h2, h3⟩, h4⟩ := hG j _ hg hj
    exact rows_of_own (n := 0) h1 h2 h3 hB h4
  | _, _, .fzf j T sz es hj hg, _, u, h => by
    simp only [AV.rep] at h ⊢
    subst h
    obtain ⟨h1, h4⟩ := hG j _ hg hj
    exact rows_of_full h1 hB h4
  | _, _, .fzk j T sz es n c hj hg, _, u, h => by
    simp only [AV.rep] at h ⊢
    subst h
    obtain ⟨h1, h4⟩ := hG j _ hg hj
    obtain ⟨g, e, h5, h6⟩ := rows_of_rowk h1 hB h4
    rw [e]; exact h6 n h5
  | _, _, .fzl j T sz es n c m hj hg hm, _, u, h => by
    simp only [AV.rep] at h ⊢
    obtain ⟨h1, h4⟩ := hG j _ hg hj
    obtain ⟨g, e, h5, h6⟩ := rows_of_rowk h1 hB h4
    obtain ⟨g', m', c', e', rfl⟩ := h
    rw [e] at e'
    injection e' with e1 e2 e3
    injection e1 with e1
    rw [← e1, ← e3]; exact h6 m hm
  | _, _, .fzo j T sz es m hj hg hm, _, u, h => by
    simp only [AV.rep] at h ⊢
    obtain ⟨⟨us, h1, h2, h3⟩, h4⟩ := hG j _ hg hj
    obtain ⟨g, m', c, e, rfl⟩ := h
    have h5 := h1
    rw [e] at h5
    have h6 : m' = es.length := by
      rcases h5.2 with ⟨e', _⟩ | ⟨g', cap, cur, e', _⟩
      · cases e'
      · injection e' with _ e2
    subst h6
    exact rows_of_cut h5 hm h2 h3 hB (h4 g (by rw [e]; rfl))
  | _, _, .ol i n, hz, u, h => by simp only [AV.rep] at h ⊢; rw [hz i (by simp [AV.ids])]; exact h
  | _, _, .sv i n, hz, u, h => by simp only [AV.rep] at h ⊢; rw [hz i (by simp [AV.ids])]; exact h
  | _, _, .nl sz, _, u, h => by
    simp only [AV.rep, RV.rep] at h ⊢
    exact ⟨none, 0, h, Nat.le_refl _, by unfold maxLen; omega, by simp, fun h => absurd rfl h⟩
  | _, _, .ag cs ds hc, hz, u, h => by
    rw [AV.rep] at h ⊢
    obtain ⟨us, e, h⟩ := h
    exact ⟨us, e, CfL.reps hB hG hc (by simpa [AV.ids] using hz) _ h⟩
  | _, _, .tu cs ds hc, hz, u, h => by
    rw [AV.rep] at h ⊢
    obtain ⟨us, e, h⟩ := h
    exact ⟨us, e, CfL.reps hB hG hc (by simpa [AV.ids] using hz) _ h⟩
theorem CfL.reps (hB : ∀ k, k < w.heap.size → B' k → B k) (hG : ∀ j b, j ∈ G → H j = some b → held Z B w j b ∧ ∀ x, blk (Z j) = some x → ¬ B' x) :
    ∀ {as ds : List AV} (_ : CfL H ρ G as ds) (_ : ∀ i ∈ AV.idss ds, Z' i = Z (ρ i)) (us : List Value), AV.reps Z B w as us → AV.reps Z' B' w ds us
  | _, _, .nil, _, us, h => by rw [AV.reps] at h ⊢; exact h
  | _, _, .cons a d as ds h1 h2, hz, us, h => by
    rw [AV.reps] at h ⊢
    obtain ⟨u, us', e, h3, h4⟩ := h
    exact ⟨u, us', e, Cf.rep hB hG h1 (fun i hi => hz i (by simp [AV.idss, hi])) u h3, CfL.reps hB hG h2 (fun i hi => hz i (by simp [AV.idss, hi])) us' h4⟩
end
end
inductive CfB (H : Nat → Option Blk) (ρ : Nat → Nat) (G : List Nat) : Blk → Blk → Prop
  | row (T sz es) : CfB H ρ G (.row T sz es) (.row T sz es)
  | full (T sz es) : CfB H ρ G (.full T sz es) (.full T sz es)
  | rowk (T sz es n c) : CfB H ρ G (.rowk T sz es n c) (.rowk T sz es n c)
  | var (T cs ds) : CfL H ρ G cs ds → CfB H ρ G (.var T cs) (.var T ds)

def rho (l : List (Nat × Nat)) (i : Nat) : Nat := match l with | [] => i | (k, x) :: l => bif Nat.beq k i then x else rho l i
def eLe (S : St) (ρ : Nat → Nat) (G : List Nat) : List (Nat × AV) → Prop
  | [] => True
  | (t, x) :: l => Cf S.HF ρ G (S.envF t) x ∧ eLe S ρ G l
def hLe (S : St) (ρ : Nat → Nat) (G : List Nat) : List (Nat × Option Blk) → Prop
  | [] => True
  | (i, some b) :: l => (∃ b', S.HF (ρ i) = some b' ∧ CfB S.HF ρ G b' b) ∧ hLe S ρ G l
  | (_, none) :: _ => False
/-- What is to be seen of the numbers of the smaller state. -/
def numsOk (L : Ln) (T : St) (ρ : Nat → Nat) (G : List Nat) : Bool :=
  (T.env.all fun p => p.2.ids.all fun i => Nat.blt i T.nx) && (T.H.all fun p => Nat.blt p.1 T.nx && match p.2 with | some b => b.ids.all fun i => Nat.blt i T.nx | none => true) &&
  ((List.range L.n).all fun i => Nat.beq (ρ i) i) && Nat.ble L.n T.nx &&
  (T.H.all fun p => T.H.all fun q => Nat.beq p.1 q.1 || !Nat.beq (ρ p.1) (ρ q.1)) && (T.H.all fun p => Nat.ble L.n (ρ p.1) || Nat.blt p.1 L.n || Nat.blt (ρ p.1) L.m) && (G.all fun g => Nat.beq L.m 0 && Nat.ble L.n g && T.H.all fun p => !Nat.beq (ρ p.1) g)
theorem get_mem : ∀ {l : List (Nat × AV)} {t : Nat}, get l t = .na ∨ (t, get l t) ∈ l
  | [], t => .inl rfl
  | (k, x) :: l, t => by
    rw [get]
    cases hb : Nat.beq k t with
    | true => have := Nat.eq_of_beq_eq_true hb; subst this; exact .inr (by simp)
    | false =>
      rcases get_mem (l := l) (t := t) with h | h
      · exact .inl h
      · exact .inr (by simp [h])
theorem getH_mem : ∀ {l : List (Nat × Option Blk)} {i : Nat} {b : Blk}, getH l i = some b → (i, some b) ∈ l
  | [], i, b, h => by simp [getH] at h
  | (k, x) :: l, i, b, h => by
    rw [getH] at h
    cases hb : Nat.beq k i with
    | true => rw [hb] at h; have := Nat.eq_of_beq_eq_true hb; subst this; simp at h; subst h; simp
    | false => rw [hb] at h; exact List.mem_cons_of_mem _ (getH_mem h)
theorem eLe_mem {S : St} {ρ : Nat → Nat} {G : List Nat} : ∀ {l : List (Nat × AV)} {t : Nat} {x : AV}, eLe S ρ G l → (t, x) ∈ l → Cf S.HF ρ G (S.envF t) x
  | (k, y) :: l, t, x, h, hm => by
    rw [eLe] at h
    rcases List.mem_cons.1 hm with e | e
    · injection e with e1 e2; subst e1 e2; exact h.1
    · exact eLe_mem h.2 e
theorem hLe_mem {S : St} {ρ : Nat → Nat} {G : List Nat} : ∀ {l : List (Nat × Option Blk)} {i : Nat} {b : Blk}, hLe S ρ G l → (i, some b) ∈ l → ∃ b', S.HF (ρ i) = some b' ∧ CfB S.HF ρ G b' b
  | (k, none) :: l, i, b, h, hm => by rw [hLe] at h; exact h.elim
  | (k, some c) :: l, i, b, h, hm => by
    rw [hLe] at h
    rcases List.mem_cons.1 hm with e | e
    · injection e with e1 e2; injection e2 with e2; subst e1 e2; exact h.1
    · exact hLe_mem h.2 e

theorem Sim.weaken {C : Cx} {S : St} {a : Act} {w : World} (hs : Sim C S a w) (T : St) (l : List (Nat × Nat)) (G : List Nat) (hn : numsOk C.ln T (rho l) G = true) (he : eLe S (rho l) G T.env) (hh : hLe S (rho l) G T.H) (hG : ∀ g ∈ G, ∃ b, S.HF g = some b) : Sim C T a w := by
  obtain ⟨Z, h⟩ := hs
  generalize rho l = ρ at *
  unfold numsOk at hn
  simp only [Bool.and_eq_true, List.all_eq_true, blt_t, ble_t] at hn
  obtain ⟨⟨⟨⟨⟨⟨n1, n2⟩, n3⟩, n4⟩, n5⟩, n7⟩, n6⟩ := hn
  have hH : ∀ i b, T.HF i = some b → ∃ b', S.HF (ρ i) = some b' ∧ CfB S.HF ρ G b' b := fun i b hb => hLe_mem hh (getH_mem hb)
  have hB : ∀ k, k < w.heap.size → Own C T.HF (fun i => Z (ρ i)) k → Own C S.HF Z k := by
    rintro k _ (h0 | ⟨i, b, hi, hb⟩)
    · exact .inl h0
    · obtain ⟨b', h1, _⟩ := hH i b hi
      exact .inr ⟨ρ i, b', h1, hb⟩
  have hGG : ∀ j b, j ∈ G → S.HF j = some b → held Z (Own C S.HF Z) w j b ∧ ∀ x, blk (Z j) = some x → ¬ Own C T.HF (fun i => Z (ρ i)) x := by
    intro j b hj hb
    refine ⟨(h.holds j b hb).1, fun x hx => ?_⟩
    obtain ⟨⟨g0, g1⟩, g2⟩ := n6 j hj
    have g0 := Nat.eq_of_beq_eq_true g0
    rintro (h0 | ⟨i, c, hi, hc⟩)
    · have := h.m0 x h0
      rcases h.fresh j b x hb hx with h3 | h3 | ⟨q, h3, _⟩
      · unfold Cx.nl at h3; omega
      · omega
      · omega
    · obtain ⟨c', h1, _⟩ := hH i c hi
      have h2 := g2 _ (getH_mem hi)
      have h3 : ρ i ≠ j := fun e => by simp [e] at h2
      exact h.dist (ρ i) j c' b h1 hb h3 x hc hx
  refine ⟨fun i => Z (ρ i), h.size, h.defers, h.frame, h.m0, fun t => ?_, fun t i hi => ?_, fun i b hb => ?_, fun i j b c hi hj hij x hx hx2 => ?_, fun i b x hi hx => ?_, h.lm, fun i hi => ?_⟩
  · unfold St.envF
    rcases get_mem (l := T.env) (t := t) with e | e
    · rw [e, AV.rep]; trivial
    · exact Cf.rep hB hGG (eLe_mem he e) (fun _ _ => rfl) _ (h.slots t)
  · unfold St.envF at hi
    rcases get_mem (l := T.env) (t := t) with e | e
    · rw [e] at hi; simp [AV.ids] at hi
    · exact n1 _ e i hi
  · obtain ⟨b', h1, h2⟩ := hH i b hb
    have h3 := (h.holds _ b' h1).1
    obtain ⟨m1, m2⟩ := n2 _ (getH_mem hb)
    refine ⟨?_, m1, fun j hj => ?_⟩
    · cases h2 with
      | row T sz es =>
        obtain ⟨us, g1, g2, g3⟩ := h3
        exact ⟨us, g1, g2.mono (Upto.refl _) hB, g3⟩
      | full T sz es =>
        obtain ⟨q, us, fr, g1, g2, g3, g4, g5⟩ := h3
        exact ⟨q, us, fr, g1, g2, g3, g4.mono (Upto.refl _) hB, g5⟩
      | var T cs ds hc =>
        obtain ⟨q, us, g1, g2, g3, g4⟩ := h3
        exact ⟨q, us, g1, g2, CfL.reps hB hGG hc (fun _ _ => rfl) _ g3, g4⟩
      | rowk T sz es n c =>
        obtain ⟨g, us, g1, g2, g3, g4, g5⟩ := h3
        exact ⟨g, us, g1, g2, g3, g4.mono (Upto.refl _) hB, g5⟩
    · simp only [List.all_eq_true, blt_t] at m2
      exact m2 j hj
  · obtain ⟨b', h1, _⟩ := hH i b hi
    obtain ⟨c', h2, _⟩ := hH j c hj
    have := n5 _ (getH_mem hi) _ (getH_mem hj)
    rw [Bool.or_eq_true] at this
    rcases this with h3 | h3
    · exact hij (Nat.eq_of_beq_eq_true h3)
    · exact h.dist (ρ i) (ρ j) b' c' h1 h2 (fun e => by simp [e] at h3) x hx hx2
  · obtain ⟨b', h1, _⟩ := hH i b hi
    rcases h.fresh _ b' x h1 hx with h3 | h3
    · have := n7 _ (getH_mem hi)
      simp only [Bool.or_eq_true, ble_t, blt_t] at this
      rcases this with (h4 | h4) | h4
      · unfold Cx.nl at h3; omega
      · exact .inl h4
      · exact .inr (.inr ⟨ρ i, h4, by rw [← (h.zl _ (Nat.lt_of_lt_of_le h4 h.lm)).1]; exact hx⟩)
    · exact .inr h3
  · have h4 := Nat.eq_of_beq_eq_true (n3 i (by simpa [Cx.nl] using hi))
    rw [h4]
    exact ⟨(h.zl i hi).1, Nat.lt_of_lt_of_le hi n4⟩

section
variable {P : Program} {L : Ln} {N : Nat} {Q : Exit → St → Prop} {S : St}
theorem awp_weaken {c : Code} (T : St) (l : List (Nat × Nat)) (G : List Nat) (hn : numsOk L T (rho l) G = true) (he : eLe S (rho l) G T.env) (hh : hLe S (rho l) G T.H) (hG : ∀ g ∈ G, ∃ b, S.HF g = some b) (h : awp P L N c Q T) : awp P L N c Q S :=
  fun C h1 h2 h3 a w hs => h C h1 h2 h3 a w (hs.weaken T l G (h2 ▸ hn) he hh hG)
/-- The state T knows less than S. -/
def Le (L : Ln) (S T : St) : Prop := ∀ C a w, C.ln = L → Sim C S a w → Sim C T a w
theorem Le.mk {S T : St} (l : List (Nat × Nat)) (G : List Nat) (hn : numsOk L T (rho l) G = true) (he : eLe S (rho l) G T.env) (hh : hLe S (rho l) G T.H) (hG : ∀ g ∈ G, ∃ b, S.HF g = some b) : Le L S T :=
  fun C a w h hs => hs.weaken T l G (h ▸ hn) he hh hG
/-- A loop: I tells the states at its head (up to knowing less). -/
theorem awp_loop' {c : Code} {α : Type} (T : α → St) (I : α → Prop) (μ : α → Nat) (x0 : α) (h0 : I x0) (hL : Le L S (T x0)) (round : ∀ x, I x → awp P L N c (thenA (fun S' => ∃ y, I y ∧ Le L S' (T y) ∧ μ y < μ x) Q) (T x)) : awp P L N (.loop c) Q S := by
  intro C h1 h2 h3 a w hs b k cs
  have key : ∀ n a w, (∃ x, I x ∧ Sim C (T x) a w ∧ μ x = n) → ∃ e a' w', (∃ S', Q e S' ∧ Sim C S' a' w') ∧ Arrives P (lone (b.at a (.code c :: .inLoop c :: k)) cs w) b k cs e a' w' := by
    intro n
    induction n using Nat.strongRecOn with
    | _ n ih =>
      rintro a w ⟨x, hI, hS, rfl⟩
      obtain ⟨e, a1, w1, ⟨S1, hq, hS1⟩, harr⟩ := round x hI C h1 h2 h3 a w hS b (.inLoop c :: k) cs
      cases e with
      | normal =>
        obtain ⟨y, hIy, hle, hlt⟩ := hq
        obtain ⟨e2, a2, w2, hq2, harr2⟩ := ih (μ y) hlt a1 w1 ⟨y, hIy, hle C a1 w1 h2 hS1, rfl⟩
        exact ⟨e2, a2, w2, hq2, .of_steps (Steps.trans harr (.one step_inLoop)) harr2⟩
      | exit id => exact ⟨_, a1, w1, ⟨S1, hq, hS1⟩, .pass (x := .inLoop c) rfl (fun _ _ => .inl (by simp)) harr⟩
      | goto l => exact ⟨_, a1, w1, ⟨S1, hq, hS1⟩, .pass (x := .inLoop c) rfl (fun _ _ => .inl (by simp)) harr⟩
      | ret => exact ⟨_, a1, w1, ⟨S1, hq, hS1⟩, .pass (x := .inLoop c) rfl (fun _ _ => .inl (by simp)) harr⟩
      | panic ch => exact ⟨_, a1, w1, ⟨S1, hq, hS1⟩, .pass (x := .inLoop c) rfl (fun _ _ => .inl (by simp)) harr⟩
      | outgrown => exact ⟨_, a1, w1, ⟨S1, hq, hS1⟩, .pass (x := .inLoop c) rfl (fun _ _ => .inl (by simp)) harr⟩
  obtain ⟨e, a', w', hq, harr⟩ := key _ a w ⟨x0, h0, hL C a w h2 hs, rfl⟩
  exact ⟨e, a', w', hq, .of_steps (.one step_loop) harr⟩
theorem awp_le {c : Code} {T : St} (hL : Le L S T) (h : awp P L N c Q T) : awp P L N c Q S := fun C h1 h2 h3 a w hs => h C h1 h2 h3 a w (hL C a w h2 hs)
end

/-! ## Functions -/
mutual
/-- New slices in what a call hands back get numbers from k on. -/
def AV.unfr : AV → Nat → AV × List Blk
  | .fr T sz es, k => (.ow k, [.row T sz es])
  | .ag cs, k => (.ag (AV.unfrs cs k).1, (AV.unfrs cs k).2)
  | .tu cs, k => (.tu (AV.unfrs cs k).1, (AV.unfrs cs k).2)
  | a, _ => (a, [])
def AV.unfrs : List AV → Nat → List AV × List Blk
  | [], _ => ([], [])
  | c :: cs, k => ((AV.unfr c k).1 :: (AV.unfrs cs (k + (AV.unfr c k).2.length)).1, (AV.unfr c k).2 ++ (AV.unfrs cs (k + (AV.unfr c k).2.length)).2)
end
def numd : Nat → List Blk → List (Nat × Blk)
  | _, [] => []
  | k, b :: bs => (k, b) :: numd (k + 1) bs
def numdO (l : List (Nat × Blk)) : List (Nat × Option Blk) := l.map fun p => (p.1, some p.2)
def numdP : Nat → List (Option Blk) → List (Nat × Option Blk)
  | _, [] => []
  | k, b :: bs => (k, b) :: numdP (k + 1) bs
/-- The first blocks are handed over (what becomes of them is not told). -/
def moved : List (Option Blk) → Nat
  | none :: l => moved l + 1
  | _ => 0
def callSp (k : Nat) (pre : List Blk) (r : AV) (post : List (Option Blk)) : Sp := ⟨true, numd 0 pre, (r.unfr k).1, numdP 0 post, (r.unfr k).2⟩

/-- THE CONTRACT of a function: with arguments that read as 'args' and own blocks of the caller that hold 'pre' (named 0, 1, .. in 'args'), it hands back what reads as r, and these blocks then hold 'post' (none: the block was handed over). -/
def Meets (P : Program) (f : FuncId) (args : List AV) (pre : List Blk) (r : AV) (post : List (Option Blk)) : Prop :=
  ∀ (w : World) (Z : Nat → Value) (M : Nat → Prop) (k : Nat) (us : List Value), (∀ x, M x → x < w.heap.size) → pre.length ≤ k → AV.reps Z M w args us →
    (∀ i b, (i, b) ∈ numd 0 pre → held Z M w i b ∧ ∀ x, blk (Z i) = some x → M x) →
    (∀ i j b c, (i, b) ∈ numd 0 pre → (j, c) ∈ numd 0 pre → i ≠ j → ∀ x, blk (Z i) = some x → blk (Z j) ≠ some x) →
    Calls P f us.toArray w fun e w' => ∃ v, e = .returned v ∧ After k (callSp k pre r post) Z M w v w'
end Go.Ab
