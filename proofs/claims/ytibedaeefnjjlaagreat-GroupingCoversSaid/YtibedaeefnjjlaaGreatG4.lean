/- Texts of the second layer in one: Ab5 Ab6. -/
import Derived.Test.YtibedaeefnjjlaaGreatG3
import Derived.Deep.WholeRow
/- The second layer: code, loops, functions. No conditions. -/
namespace Go.Ab
open Go.RowKit
set_option linter.unusedVariables false

def awp (P : Program) (L : Ln) (N : Nat) (c : Code) (Q : Exit → St → Prop) (S : St) : Prop :=
  ∀ (C : Cx), C.P = P → C.ln = L → C.N = N → ∀ a w, Sim C S a w → c.wp P (fun e a' w' => ∃ S', Q e S' ∧ Sim C S' a' w') a w

def thenA (next : St → Prop) (Q : Exit → St → Prop) : Exit → St → Prop
  | .normal, S => next S
  | e, S => Q e S
def blockA (id : Nat) (Q : Exit → St → Prop) : Exit → St → Prop
  | .exit id', S => bif Nat.beq id' id then Q .normal S else Q (.exit id') S
  | e, S => Q e S

section
variable {P : Program} {L : Ln} {N : Nat} {Q : Exit → St → Prop} {S : St}
theorem awp_mono {c : Code} {Q' : Exit → St → Prop} (h : awp P L N c Q S) (hq : ∀ e S, Q e S → Q' e S) : awp P L N c Q' S :=
  fun C h1 h2 h3 a w hs => Code.wp_mono (fun e a' w' ⟨S', h4, h5⟩ => ⟨S', hq e S' h4, h5⟩) (h C h1 h2 h3 a w hs)
theorem awp_seq {x y : Code} (h : awp P L N x (thenA (awp P L N y Q) Q) S) : awp P L N (.seq x y) Q S := by
  intro C h1 h2 h3 a w hs
  refine wp_seq (Code.wp_mono (fun e a' w' ⟨S', h4, h5⟩ => ?_) (h C h1 h2 h3 a w hs))
  cases e with
  | normal => exact h4 C h1 h2 h3 a' w' h5
  | exit id => exact ⟨S', h4, h5⟩
  | goto l => exact ⟨S', h4, h5⟩
  | ret => exact ⟨S', h4, h5⟩
  | panic ch => exact ⟨S', h4, h5⟩
  | outgrown => exact ⟨S', h4, h5⟩
theorem awp_skip (h : Q .normal S) : awp P L N .skip Q S := fun C h1 h2 h3 a w hs => wp_skip ⟨S, h, hs⟩
theorem awp_exit {id : Nat} (h : Q (.exit id) S) : awp P L N (.exit id) Q S := fun C h1 h2 h3 a w hs => wp_exit ⟨S, h, hs⟩
theorem awp_ret (h : Q .ret S) : awp P L N .ret Q S := fun C h1 h2 h3 a w hs => wp_ret ⟨S, h, hs⟩
theorem awp_block {id : Nat} {c : Code} (h : awp P L N c (blockA id Q) S) : awp P L N (.block id c) Q S := by
  intro C h1 h2 h3 a w hs
  refine wp_block (Code.wp_mono (fun e a' w' ⟨S', h4, h5⟩ => ?_) (h C h1 h2 h3 a w hs))
  cases e with
  | normal => exact ⟨S', h4, h5⟩
  | exit id' =>
    simp only [Exit.inBlock]
    simp only [blockA] at h4
    by_cases hid : id' = id
    · subst hid
      rw [if_pos rfl]
      rw [show Nat.beq id' id' = true by simp] at h4
      exact ⟨S', h4, h5⟩
    · rw [if_neg hid]
      have : Nat.beq id' id = false := by cases hb : Nat.beq id' id with
        | false => rfl
        | true => exact absurd (Nat.eq_of_beq_eq_true hb) hid
      rw [this] at h4
      exact ⟨S', h4, h5⟩
  | goto l => exact ⟨S', h4, h5⟩
  | ret => exact ⟨S', h4, h5⟩
  | panic ch => exact ⟨S', h4, h5⟩
  | outgrown => exact ⟨S', h4, h5⟩
theorem awp_cond {c : Operand} {x y : Code} {b : Bool} (hc : evA S.envF c = .r (.v (.bool b))) (ht : b = true → awp P L N x Q S) (hf : b = false → awp P L N y Q S) : awp P L N (.cond c x y) Q S := by
  intro C h1 h2 h3 a w hs
  obtain ⟨Z, hS⟩ := hs
  have he := hS.ev c
  rw [hc, AV.rep, RV.rep] at he
  exact wp_cond_split he (fun h => ht h C h1 h2 h3 a w ⟨Z, hS⟩) (fun h => hf h C h1 h2 h3 a w ⟨Z, hS⟩)
theorem awp_text {id : Nat} {l : List Oper} (h : wpA P L N l.toArray (fun _ => true) (Q .normal) l S []) : awp P L N (.region id l.toArray false) Q S := by
  intro C h1 h2 h3 a w hs
  subst h1 h2 h3
  exact wp_region_lit (wpList_of_wpA rfl (fun S' a' w' h4 h5 => ⟨S', h4, h5⟩) l S [] a w h hs)
theorem awp_any {id : Nat} {l : List Oper} (hm : P.follows .mixedOrders = true) (h : wpA P L N l.toArray (chkAll l.toArray S.nx) (Q .normal) l S []) : awp P L N (.region id l.toArray true) Q S := by
  intro C h1 h2 h3 a w hs
  subst h1 h2 h3
  exact wp_region_A rfl hm (by simpa using h) hs (fun S' a' w' h4 h5 => ⟨S', h4, h5⟩)

end

/-! ## Knowing less, under other numbers -/
mutual
inductive Cf (H : Nat → Option Blk) (ρ : Nat → Nat) (G : List Nat) : AV → AV → Prop
  | na (a) : Cf H ρ G a .na
  | r (c) : Cf H ρ G (.r c) (.r c)
  | rp (cs) : Cf H ρ G (.rp cs) (.rp cs)
  | ow (i) : Cf H ρ G (.ow (ρ i)) (.ow i)
  | pt (i o) : Cf H ρ G (.pt (ρ i) o) (.pt i o)
  | pe (i sz k f) : Cf H ρ G (.pe (ρ i) sz k f) (.pe i sz k f)
  | fz (j T sz es) : H j = some (.row T sz es) → j ∈ G → Cf H ρ G (.ow j) (.r (.sl sz es))
  | fzf (j T sz es) : H j = some (.full T sz es) → j ∈ G → Cf H ρ G (.ow j) (.r (.sl sz es))
  | fzk (j T sz es n c) : H j = some (.rowk T sz es n c) → j ∈ G → Cf H ρ G (.ow j) (.r (.sl sz (es.take n)))
  | fzl (j T sz es n c m) : H j = some (.rowk T sz es n c) → j ∈ G → m ≤ es.length → Cf H ρ G (.ol j m) (.r (.sl sz (es.take m)))
  | fzo (j T sz es m) : H j = some (.row T sz es) → j ∈ G → m ≤ es.length → Cf H ρ G (.ol j m) (.r (.sl sz (es.take m)))
  | ol (i n) : Cf H ρ G (.ol (ρ i) n) (.ol i n)
  | sv (i n) : Cf H ρ G (.sv (ρ i) n) (.sv i n)
  | so (i o n c) : Cf H ρ G (.so (ρ i) o n c) (.so i o n c)
  | nl (sz) : Cf H ρ G (.r (.v (.slice none 0 0))) (.r (.sl sz []))
  | ag (cs ds) : CfL H ρ G cs ds → Cf H ρ G (.ag cs) (.ag ds)
  | cl (f cs ds) : CfL H ρ G cs ds → Cf H ρ G (.cl f cs) (.cl f ds)
  | tu (cs ds) : CfL H ρ G cs ds → Cf H ρ G (.tu cs) (.tu ds)
inductive CfL (H : Nat → Option Blk) (ρ : Nat → Nat) (G : List Nat) : List AV → List AV → Prop
  | nil : CfL H ρ G [] []
  | cons (a d as ds) : Cf H ρ G a d → CfL H ρ G as ds → CfL H ρ G (a :: as) (d :: ds)
end

theorem rows_of_own {w : World} {T sz n : Nat} {v : Value} {us : List Value} {B B' : Nat → Prop} {es : List (List RV)} (h : w.ownsRow 0 T sz v es.length us) (hu : RVs B w es.flatten us) (he : ∀ e ∈ es, e.length = sz)
    (hB : ∀ k, k < w.heap.size → B' k → B k) (hb : ∀ x, blk v = some x → ¬ B' x) : RV.rep B' w (.sl sz es) v := by
  rw [RV.rep]
  rcases h.2 with ⟨e, h0⟩ | ⟨g, cap, cur, e, _, hg, h1, h2, h3, h4⟩
  · have : es = [] := List.eq_nil_of_length_eq_zero h0
    subst this
    exact ⟨none, 0, e, Nat.le_refl _, by unfold maxLen; omega, he, fun hn => absurd rfl hn⟩
  · refine ⟨_, cap, e, h1, h2, he, fun _ => ⟨_, rfl, heap_lt hg, hb g (by rw [e]; rfl), ?_⟩⟩
    rw [RV.rows_flat, RV.row_vals]
    refine ⟨us, hu.mono (Upto.refl _) hB, fun k u hk => ?_⟩
    have hc := cell_of_row w g k cur T (0, 0) hg
    have e2 : (⟨g, 0, none⟩ : Addr).add (0 + k) = ⟨g, k, none⟩ := by unfold Addr.add; by_cases h : k = 0 <;> simp [h]
    rw [e2, hc]
    rw [← h4, List.getElem?_take] at hk
    split at hk
    · simpa using hk
    · cases hk

theorem rows_of_full {w : World} {Z : Nat → Value} {i T sz : Nat} {B B' : Nat → Prop} {es : List (List RV)} (h : held Z B w i (.full T sz es)) (hB : ∀ k, k < w.heap.size → B' k → B k) (hb : ∀ x, blk (Z i) = some x → ¬ B' x) : RV.rep B' w (.sl sz es) (Z i) := by
  rw [RV.rep]
  obtain ⟨g, us, fr, e, hg, h1, h2, h3⟩ := h
  refine ⟨_, _, e, Nat.le_refl _, h1, h3, fun _ => ⟨_, rfl, heap_lt hg, hb g (by rw [e]; rfl), ?_⟩⟩
  rw [RV.rows_flat, RV.row_vals]
  refine ⟨us.toList, h2.mono (Upto.refl _) hB, fun k u hk => ?_⟩
  have hc := cell_of_row w g k us T fr hg
  have e2 : (⟨g, 0, none⟩ : Addr).add (0 + k) = ⟨g, k, none⟩ := by unfold Addr.add; by_cases h : k = 0 <;> simp [h]
  rw [e2, hc]
  simpa using hk
theorem rows_of_cut {w : World} {T sz m c : Nat} {g : Nat} {us : List Value} {B B' : Nat → Prop} {es : List (List RV)} (h : w.ownsRow 0 T sz (.slice (some ⟨g, 0, none⟩) es.length c) es.length us) (hm : m ≤ es.length) (hu : RVs B w es.flatten us) (he : ∀ e ∈ es, e.length = sz)
    (hB : ∀ k, k < w.heap.size → B' k → B k) (hb : ¬ B' g) : RV.rep B' w (.sl sz (es.take m)) (.slice (some ⟨g, 0, none⟩) m c) := by
  have h0 := rows_of_own (n := 0) h hu he hB (fun x hx => by simp [blk] at hx; subst hx; exact hb)
  rw [RV.rep] at h0 ⊢
  obtain ⟨A, c', e, h1, h2, h3, h4⟩ := h0
  injection e with e1 e2 e3
  subst e1 e3
  refine ⟨_, _, by rw [List.length_take, Nat.min_eq_left hm], by rw [List.length_take]; omega, h2, fun e he => h3 e (List.mem_of_mem_take he), fun hne => ?_⟩
  obtain ⟨ad, e, hlt, hnb, hr⟩ := h4 (fun e => hne (by rw [e]; simp))
  refine ⟨ad, e, hlt, hnb, ?_⟩
  rw [RV.rows_flat] at hr ⊢
  rw [(flatten_drop_take sz es he m).2]
  exact RV.row_take hr _
theorem rows_of_rowk {w : World} {Z : Nat → Value} {i T sz n c : Nat} {B B' : Nat → Prop} {es : List (List RV)} (h : held Z B w i (.rowk T sz es n c)) (hB : ∀ k, k < w.heap.size → B' k → B k) (hb : ∀ x, blk (Z i) = some x → ¬ B' x) : ∃ g, Z i = .slice (some ⟨g, 0, none⟩) n c ∧ n ≤ es.length ∧ ∀ m, m ≤ es.length → RV.rep B' w (.sl sz (es.take m)) (.slice (some ⟨g, 0, none⟩) m c) := by
  obtain ⟨g, us, e, h1, h2, h3, h4⟩ := h
  exact ⟨g, e, h2, fun m hm => rows_of_cut h1 hm h3 h4 hB (hb g (by rw [e]; rfl))⟩
section
variable {H : Nat → Option Blk} {ρ : Nat → Nat} {G : List Nat} {Z Z' : Nat → Value} {B B' : Nat → Prop} {w : World}
mutual
theorem Cf.rep (hB : ∀ k, k < w.heap.size → B' k → B k) (hG : ∀ j b, j ∈ G → H j = some b → held Z B w j b ∧ ∀ x, blk (Z j) = some x → ¬ B' x) :
    ∀ {a d : AV} (_ : Cf H ρ G a d) (_ : ∀ i ∈ d.ids, Z' i = Z (ρ i)) (u : Value), AV.rep Z B w a u → AV.rep Z' B' w d u
  | _, _, .na a, _, u, h => by simp only [AV.rep]
  | _, _, .r c, _, u, h => AV.rep_mono (Upto.refl _) hB _ (fun i hi => by simp [AV.ids] at hi) _ h
  | _, _, .rp c, _, u, h => AV.rep_mono (Upto.refl _) hB _ (fun i hi => by simp [AV.ids] at hi) _ h
  | _, _, .ow i, hz, u, h => by simp only [AV.rep] at h ⊢; rw [hz i (by simp [AV.ids])]; exact h
  | _, _, .pt i o, hz, u, h => by simp only [AV.rep] at h ⊢; rw [hz i (by simp [AV.ids])]; exact h
  | _, _, .pe i sz k f, hz, u, h => by simp only [AV.rep] at h ⊢; rw [hz i (by simp [AV.ids])]; exact h
  | _, _, .fz j T sz es hj hg, _, u, h => by
    simp only [AV.rep] at h ⊢
    subst h
    obtain ⟨⟨us, h1, h2, h3⟩, h4⟩ := hG j _ hg hj
    exact rows_of_own (n := 0) h1 h2 h3 hB h4
  | _, _, .fzf j T sz es hj hg, _, u, h => by
    simp only [AV.rep] at h ⊢
    subst h
    obtain ⟨h1, h4⟩ := hG j _ hg hj
    exact rows_of_full h1 hB h4
  | _, _, .fzk j T sz es n c hj hg, _, u, h => by
    simp only [AV.rep] at h ⊢
    subst h
    obtain ⟨h1, h4⟩ := hG j _ hg hj
    obtain ⟨g, e, h5, h6⟩ := rows_of_rowk h1 hB h4
    rw [e]; exact h6 n h5
  | _, _, .fzl j T sz es n c m hj hg hm, _, u, h => by
    simp only [AV.rep] at h ⊢
    obtain ⟨h1, h4⟩ := hG j _ hg hj
    obtain ⟨g, e, h5, h6⟩ := rows_of_rowk h1 hB h4
    obtain ⟨g', m', c', e', rfl⟩ := h
    rw [e] at e'
    injection e' with e1 e2 e3
    injection e1 with e1
    rw [← e1, ← e3]; exact h6 m hm
  | _, _, .fzo j T sz es m hj hg hm, _, u, h => by
    simp only [AV.rep] at h ⊢
    obtain ⟨⟨us, h1, h2, h3⟩, h4⟩ := hG j _ hg hj
    obtain ⟨g, m', c, e, rfl⟩ := h
    have h5 := h1
    rw [e] at h5
    have h6 : m' = es.length := by
      rcases h5.2 with ⟨e', _⟩ | ⟨g', cap, cur, e', _⟩
      · cases e'
      · injection e' with _ e2
    subst h6
    exact rows_of_cut h5 hm h2 h3 hB (h4 g (by rw [e]; rfl))
  | _, _, .ol i n, hz, u, h => by simp only [AV.rep] at h ⊢; rw [hz i (by simp [AV.ids])]; exact h
  | _, _, .sv i n, hz, u, h => by simp only [AV.rep] at h ⊢; rw [hz i (by simp [AV.ids])]; exact h
  | _, _, .so i o n c, hz, u, h => by simp only [AV.rep] at h ⊢; rw [hz i (by simp [AV.ids])]; exact h
  | _, _, .nl sz, _, u, h => by
    simp only [AV.rep, RV.rep] at h ⊢
    exact ⟨none, 0, h, Nat.le_refl _, by unfold maxLen; omega, by simp, fun h => absurd rfl h⟩
  | _, _, .ag cs ds hc, hz, u, h => by
    rw [AV.rep] at h ⊢
    obtain ⟨us, e, h⟩ := h
    exact ⟨us, e, CfL.reps hB hG hc (by simpa [AV.ids] using hz) _ h⟩
  | _, _, .cl f cs ds hc, hz, u, h => by
    rw [AV.rep] at h ⊢
    obtain ⟨us, e, h⟩ := h
    exact ⟨us, e, CfL.reps hB hG hc (by simpa [AV.ids] using hz) _ h⟩
  | _, _, .tu cs ds hc, hz, u, h => by
    rw [AV.rep] at h ⊢
    obtain ⟨us, e, h⟩ := h
    exact ⟨us, e, CfL.reps hB hG hc (by simpa [AV.ids] using hz) _ h⟩
theorem CfL.reps (hB : ∀ k, k < w.heap.size → B' k → B k) (hG : ∀ j b, j ∈ G → H j = some b → held Z B w j b ∧ ∀ x, blk (Z j) = some x → ¬ B' x) :
    ∀ {as ds : List AV} (_ : CfL H ρ G as ds) (_ : ∀ i ∈ AV.idss ds, Z' i = Z (ρ i)) (us : List Value), AV.reps Z B w as us → AV.reps Z' B' w ds us
  | _, _, .nil, _, us, h => by rw [AV.reps] at h ⊢; exact h
  | _, _, .cons a d as ds h1 h2, hz, us, h => by
    rw [AV.reps] at h ⊢
    obtain ⟨u, us', e, h3, h4⟩ := h
    exact ⟨u, us', e, Cf.rep hB hG h1 (fun i hi => hz i (by simp [AV.idss, hi])) u h3, CfL.reps hB hG h2 (fun i hi => hz i (by simp [AV.idss, hi])) us' h4⟩
end
end
inductive CfB (H : Nat → Option Blk) (ρ : Nat → Nat) (G : List Nat) : Blk → Blk → Prop
  | row (T sz es) : CfB H ρ G (.row T sz es) (.row T sz es)
  | full (T sz es) : CfB H ρ G (.full T sz es) (.full T sz es)
  | rowk (T sz es n c) : CfB H ρ G (.rowk T sz es n c) (.rowk T sz es n c)
  | var (T cs ds) : CfL H ρ G cs ds → CfB H ρ G (.var T cs) (.var T ds)
  | rowo (T sz es cs ds) : CfL H ρ G cs ds → CfB H ρ G (.rowo T sz es cs) (.rowo T sz es ds)
  | rowc (T sz es cs e) : CfL H ρ G cs (e.map AV.r) → CfB H ρ G (.rowo T sz es cs) (.row T sz (es ++ [e]))
  | mp (l) : CfB H ρ G (.mp l) (.mp l)
  | obj (o) : CfB H ρ G (.obj o) (.obj o)

theorem CfL.len {H : Nat → Option Blk} {ρ : Nat → Nat} {G : List Nat} : ∀ {as ds : List AV}, CfL H ρ G as ds → as.length = ds.length
  | _, _, .nil => rfl
  | _, _, .cons _ _ _ _ _ h => by simp [h.len]
theorem rvs_of_reps0 {Z : Nat → Value} {B : Nat → Prop} {w : World} : ∀ (e : List RV) {us : List Value}, AV.reps Z B w (e.map AV.r) us → us.all (·.oneCell') = true → RVs B w e us
  | [], us, h, _ => by rw [List.map_nil, AV.reps] at h; subst h; exact .nil
  | c :: e, us, h, h1 => by
    rw [List.map_cons, AV.reps] at h
    obtain ⟨u, us', rfl, h2, h3⟩ := h
    rw [List.all_cons, Bool.and_eq_true] at h1
    rw [AV.rep] at h2
    exact .cons h1.1 h2 (rvs_of_reps0 e h3 h1.2)
def rho (l : List (Nat × Nat)) (i : Nat) : Nat := match l with | [] => i | (k, x) :: l => bif Nat.beq k i then x else rho l i
def eLe (S : St) (ρ : Nat → Nat) (G : List Nat) : List (Nat × AV) → Prop
  | [] => True
  | (t, x) :: l => Cf S.HF ρ G (S.envF t) x ∧ eLe S ρ G l
def hLe (S : St) (ρ : Nat → Nat) (G : List Nat) : List (Nat × Option Blk) → Prop
  | [] => True
  | (i, some b) :: l => (∃ b', S.HF (ρ i) = some b' ∧ CfB S.HF ρ G b' b) ∧ hLe S ρ G l
  | (_, none) :: _ => False
/-- What is to be seen of the numbers of the smaller state. -/
def numsOk (L : Ln) (T : St) (ρ : Nat → Nat) (G : List Nat) : Bool :=
  (T.env.all fun p => p.2.ids.all fun i => Nat.blt i T.nx) && (T.H.all fun p => Nat.blt p.1 T.nx && match p.2 with | some b => b.ids.all fun i => Nat.blt i T.nx | none => true) &&
  ((List.range L.n).all fun i => Nat.beq (ρ i) i) && Nat.ble L.n T.nx &&
  (T.H.all fun p => T.H.all fun q => Nat.beq p.1 q.1 || !Nat.beq (ρ p.1) (ρ q.1)) && (T.H.all fun p => Nat.ble L.n (ρ p.1) || Nat.blt p.1 L.n || Nat.blt (ρ p.1) L.m) && (G.all fun g => Nat.beq L.m 0 && Nat.ble L.n g && T.H.all fun p => !Nat.beq (ρ p.1) g)
theorem get_mem : ∀ {l : List (Nat × AV)} {t : Nat}, get l t = .na ∨ (t, get l t) ∈ l
  | [], t => .inl rfl
  | (k, x) :: l, t => by
    rw [get]
    cases hb : Nat.beq k t with
    | true => have := Nat.eq_of_beq_eq_true hb; subst this; exact .inr (by simp)
    | false =>
      rcases get_mem (l := l) (t := t) with h | h
      · exact .inl h
      · exact .inr (by simp [h])
theorem getH_mem : ∀ {l : List (Nat × Option Blk)} {i : Nat} {b : Blk}, getH l i = some b → (i, some b) ∈ l
  | [], i, b, h => by simp [getH] at h
  | (k, x) :: l, i, b, h => by
    rw [getH] at h
    cases hb : Nat.beq k i with
    | true => rw [hb] at h; have := Nat.eq_of_beq_eq_true hb; subst this; simp at h; subst h; simp
    | false => rw [hb] at h; exact List.mem_cons_of_mem _ (getH_mem h)
theorem eLe_mem {S : St} {ρ : Nat → Nat} {G : List Nat} : ∀ {l : List (Nat × AV)} {t : Nat} {x : AV}, eLe S ρ G l → (t, x) ∈ l → Cf S.HF ρ G (S.envF t) x
  | (k, y) :: l, t, x, h, hm => by
    rw [eLe] at h
    rcases List.mem_cons.1 hm with e | e
    · injection e with e1 e2; subst e1 e2; exact h.1
    · exact eLe_mem h.2 e
theorem hLe_mem {S : St} {ρ : Nat → Nat} {G : List Nat} : ∀ {l : List (Nat × Option Blk)} {i : Nat} {b : Blk}, hLe S ρ G l → (i, some b) ∈ l → ∃ b', S.HF (ρ i) = some b' ∧ CfB S.HF ρ G b' b
  | (k, none) :: l, i, b, h, hm => by rw [hLe] at h; exact h.elim
  | (k, some c) :: l, i, b, h, hm => by
    rw [hLe] at h
    rcases List.mem_cons.1 hm with e | e
    · injection e with e1 e2; injection e2 with e2; subst e1 e2; exact h.1
    · exact hLe_mem h.2 e

theorem Sim.weaken {C : Cx} {S : St} {a : Act} {w : World} (hs : Sim C S a w) (T : St) (l : List (Nat × Nat)) (G : List Nat) (hn : numsOk C.ln T (rho l) G = true) (he : eLe S (rho l) G T.env) (hh : hLe S (rho l) G T.H) (hG : ∀ g ∈ G, ∃ b, S.HF g = some b) : Sim C T a w := by
  obtain ⟨Z, h⟩ := hs
  generalize rho l = ρ at *
  unfold numsOk at hn
  simp only [Bool.and_eq_true, List.all_eq_true, blt_t, ble_t] at hn
  obtain ⟨⟨⟨⟨⟨⟨n1, n2⟩, n3⟩, n4⟩, n5⟩, n7⟩, n6⟩ := hn
  have hH : ∀ i b, T.HF i = some b → ∃ b', S.HF (ρ i) = some b' ∧ CfB S.HF ρ G b' b := fun i b hb => hLe_mem hh (getH_mem hb)
  have hB : ∀ k, k < w.heap.size → Own C T.HF (fun i => Z (ρ i)) k → Own C S.HF Z k := by
    rintro k _ (h0 | ⟨i, b, hi, hb⟩)
    · exact .inl h0
    · obtain ⟨b', h1, _⟩ := hH i b hi
      exact .inr ⟨ρ i, b', h1, hb⟩
  have hGG : ∀ j b, j ∈ G → S.HF j = some b → held Z (Own C S.HF Z) w j b ∧ ∀ x, blk (Z j) = some x → ¬ Own C T.HF (fun i => Z (ρ i)) x := by
    intro j b hj hb
    refine ⟨(h.holds j b hb).1, fun x hx => ?_⟩
    obtain ⟨⟨g0, g1⟩, g2⟩ := n6 j hj
    have g0 := Nat.eq_of_beq_eq_true g0
    rintro (h0 | ⟨i, c, hi, hc⟩)
    · have := h.m0 x h0
      rcases h.fresh j b x hb hx with h3 | h3 | ⟨q, h3, _⟩
      · unfold Cx.nl at h3; omega
      · omega
      · omega
    · obtain ⟨c', h1, _⟩ := hH i c hi
      have h2 := g2 _ (getH_mem hi)
      have h3 : ρ i ≠ j := fun e => by simp [e] at h2
      exact h.dist (ρ i) j c' b h1 hb h3 x hc hx
  refine ⟨fun i => Z (ρ i), h.size, h.defers, h.frame, h.m0, fun t => ?_, fun t i hi => ?_, fun i b hb => ?_, fun i j b c hi hj hij x hx hx2 => ?_, fun i b x hi hx => ?_, h.lm, fun i hi => ?_⟩
  · unfold St.envF
    rcases get_mem (l := T.env) (t := t) with e | e
    · rw [e, AV.rep]; trivial
    · exact Cf.rep hB hGG (eLe_mem he e) (fun _ _ => rfl) _ (h.slots t)
  · unfold St.envF at hi
    rcases get_mem (l := T.env) (t := t) with e | e
    · rw [e] at hi; simp [AV.ids] at hi
    · exact n1 _ e i hi
  · obtain ⟨b', h1, h2⟩ := hH i b hb
    have h3 := (h.holds _ b' h1).1
    obtain ⟨m1, m2⟩ := n2 _ (getH_mem hb)
    refine ⟨?_, m1, fun j hj => ?_⟩
    · cases h2 with
      | row T sz es =>
        obtain ⟨us, g1, g2, g3⟩ := h3
        exact ⟨us, g1, g2.mono (Upto.refl _) hB, g3⟩
      | full T sz es =>
        obtain ⟨q, us, fr, g1, g2, g3, g4, g5⟩ := h3
        exact ⟨q, us, fr, g1, g2, g3, g4.mono (Upto.refl _) hB, g5⟩
      | var T cs ds hc =>
        obtain ⟨q, us, g1, g2, g3, g4⟩ := h3
        exact ⟨q, us, g1, g2, CfL.reps hB hGG hc (fun _ _ => rfl) _ g3, g4⟩
      | rowk T sz es n c =>
        obtain ⟨g, us, g1, g2, g3, g4, g5⟩ := h3
        exact ⟨g, us, g1, g2, g3, g4.mono (Upto.refl _) hB, g5⟩
      | rowo T sz es cs ds hc =>
        obtain ⟨us, vs, g1, g2, g3, g4, g5, g6⟩ := h3
        exact ⟨us, vs, g1, g2.mono (Upto.refl _) hB, CfL.reps hB hGG hc (fun _ _ => rfl) _ g3, g4, by rw [← hc.len]; exact g5, g6⟩
      | rowc T sz es cs e hc =>
        obtain ⟨us, vs, g1, g2, g3, g4, g5, g6⟩ := h3
        have g7 := CfL.reps (Z' := fun i => Z (ρ i)) hB hGG hc (fun _ _ => rfl) _ g3
        have g8 := hc.len
        rw [List.length_map] at g8
        refine ⟨us ++ vs, by rw [List.length_append]; exact g1, ?_, fun x hx => ?_⟩
        · rw [List.flatten_append]
          refine (g2.mono (Upto.refl _) hB).append ?_
          rw [show [e].flatten = e by simp]
          exact rvs_of_reps0 e g7 g6
        · rcases List.mem_append.1 hx with hx | hx
          · exact g4 x hx
          · rw [List.mem_singleton] at hx; subst hx; omega
      | mp l =>
        obtain ⟨q, es, clock, g1, g2, g3⟩ := h3
        exact ⟨q, es, clock, g1, g2, g3⟩
      | obj o =>
        obtain ⟨q, g1, g2⟩ := h3
        exact ⟨q, g1, g2⟩
    · simp only [List.all_eq_true, blt_t] at m2
      exact m2 j hj
  · obtain ⟨b', h1, _⟩ := hH i b hi
    obtain ⟨c', h2, _⟩ := hH j c hj
    have := n5 _ (getH_mem hi) _ (getH_mem hj)
    rw [Bool.or_eq_true] at this
    rcases this with h3 | h3
    · exact hij (Nat.eq_of_beq_eq_true h3)
    · exact h.dist (ρ i) (ρ j) b' c' h1 h2 (fun e => by simp [e] at h3) x hx hx2
  · obtain ⟨b', h1, _⟩ := hH i b hi
    rcases h.fresh _ b' x h1 hx with h3 | h3
    · have := n7 _ (getH_mem hi)
      simp only [Bool.or_eq_true, ble_t, blt_t] at this
      rcases this with (h4 | h4) | h4
      · unfold Cx.nl at h3; omega
      · exact .inl h4
      · exact .inr (.inr ⟨ρ i, h4, by rw [← (h.zl _ (Nat.lt_of_lt_of_le h4 h.lm)).1]; exact hx⟩)
    · exact .inr h3
  · have h4 := Nat.eq_of_beq_eq_true (n3 i (by simpa [Cx.nl] using hi))
    rw [h4]
    exact ⟨(h.zl i hi).1, Nat.lt_of_lt_of_le hi n4⟩

section
variable {P : Program} {L : Ln} {N : Nat} {Q : Exit → St → Prop} {S : St}
/-- The state T knows less than S. -/
def Le (L : Ln) (S T : St) : Prop := ∀ C a w, C.ln = L → Sim C S a w → Sim C T a w
theorem Le.mk {S T : St} (l : List (Nat × Nat)) (G : List Nat) (hn : numsOk L T (rho l) G = true) (he : eLe S (rho l) G T.env) (hh : hLe S (rho l) G T.H) (hG : ∀ g ∈ G, ∃ b, S.HF g = some b) : Le L S T :=
  fun C a w h hs => hs.weaken T l G (h ▸ hn) he hh hG
/-- A loop: I tells the states at its head (up to knowing less). -/
theorem awp_loop' {c : Code} {α : Type} (T : α → St) (I : α → Prop) (μ : α → Nat) (x0 : α) (h0 : I x0) (hL : Le L S (T x0)) (round : ∀ x, I x → awp P L N c (thenA (fun S' => ∃ y, I y ∧ Le L S' (T y) ∧ μ y < μ x) Q) (T x)) : awp P L N (.loop c) Q S := by
  intro C h1 h2 h3 a w hs b k cs
  have key : ∀ n a w, (∃ x, I x ∧ Sim C (T x) a w ∧ μ x = n) → ∃ e a' w', (∃ S', Q e S' ∧ Sim C S' a' w') ∧ Arrives P (lone (b.at a (.code c :: .inLoop c :: k)) cs w) b k cs e a' w' := by
    intro n
    induction n using Nat.strongRecOn with
    | _ n ih =>
      rintro a w ⟨x, hI, hS, rfl⟩
      obtain ⟨e, a1, w1, ⟨S1, hq, hS1⟩, harr⟩ := round x hI C h1 h2 h3 a w hS b (.inLoop c :: k) cs
      cases e with
      | normal =>
        obtain ⟨y, hIy, hle, hlt⟩ := hq
        obtain ⟨e2, a2, w2, hq2, harr2⟩ := ih (μ y) hlt a1 w1 ⟨y, hIy, hle C a1 w1 h2 hS1, rfl⟩
        exact ⟨e2, a2, w2, hq2, .of_steps (Steps.trans harr (.one step_inLoop)) harr2⟩
      | exit id => exact ⟨_, a1, w1, ⟨S1, hq, hS1⟩, .pass (x := .inLoop c) rfl (fun _ _ => .inl (by simp)) harr⟩
      | goto l => exact ⟨_, a1, w1, ⟨S1, hq, hS1⟩, .pass (x := .inLoop c) rfl (fun _ _ => .inl (by simp)) harr⟩
      | ret => exact ⟨_, a1, w1, ⟨S1, hq, hS1⟩, .pass (x := .inLoop c) rfl (fun _ _ => .inl (by simp)) harr⟩
      | panic ch => exact ⟨_, a1, w1, ⟨S1, hq, hS1⟩, .pass (x := .inLoop c) rfl (fun _ _ => .inl (by simp)) harr⟩
      | outgrown => exact ⟨_, a1, w1, ⟨S1, hq, hS1⟩, .pass (x := .inLoop c) rfl (fun _ _ => .inl (by simp)) harr⟩
  obtain ⟨e, a', w', hq, harr⟩ := key _ a w ⟨x0, h0, hL C a w h2 hs, rfl⟩
  exact ⟨e, a', w', hq, .of_steps (.one step_loop) harr⟩
theorem awp_le {c : Code} {T : St} (hL : Le L S T) (h : awp P L N c Q T) : awp P L N c Q S := fun C h1 h2 h3 a w hs => h C h1 h2 h3 a w (hL C a w h2 hs)
end

/-! ## Functions -/
mutual
/-- New slices in what a call hands back get numbers from k on. -/
def AV.unfr : AV → Nat → AV × List Blk
  | .fr T sz es, k => (.ow k, [.row T sz es])
  | .ag cs, k => (.ag (AV.unfrs cs k).1, (AV.unfrs cs k).2)
  | .tu cs, k => (.tu (AV.unfrs cs k).1, (AV.unfrs cs k).2)
  | a, _ => (a, [])
def AV.unfrs : List AV → Nat → List AV × List Blk
  | [], _ => ([], [])
  | c :: cs, k => ((AV.unfr c k).1 :: (AV.unfrs cs (k + (AV.unfr c k).2.length)).1, (AV.unfr c k).2 ++ (AV.unfrs cs (k + (AV.unfr c k).2.length)).2)
end
def numd : Nat → List Blk → List (Nat × Blk)
  | _, [] => []
  | k, b :: bs => (k, b) :: numd (k + 1) bs
def numdO (l : List (Nat × Blk)) : List (Nat × Option Blk) := l.map fun p => (p.1, some p.2)
def numdP : Nat → List (Option Blk) → List (Nat × Option Blk)
  | _, [] => []
  | k, b :: bs => (k, b) :: numdP (k + 1) bs
/-- The first blocks are handed over (what becomes of them is not told). -/
def moved : List (Option Blk) → Nat
  | none :: l => moved l + 1
  | _ => 0
def callSp (k : Nat) (pre : List Blk) (r : AV) (post : List (Option Blk)) : Sp := ⟨true, numd 0 pre, (r.unfr k).1, numdP 0 post, (r.unfr k).2⟩

/-- THE CONTRACT of a function: with arguments that read as 'args' and own blocks of the caller that hold 'pre' (named 0, 1, .. in 'args'), it hands back what reads as r, and these blocks then hold 'post' (none: the block was handed over). -/
def Meets (P : Program) (f : FuncId) (args : List AV) (pre : List Blk) (r : AV) (post : List (Option Blk)) : Prop :=
  ∀ (w : World) (Z : Nat → Value) (M : Nat → Prop) (k : Nat) (us : List Value), (∀ x, M x → x < w.heap.size) → pre.length ≤ k → AV.reps Z M w args us →
    (∀ i b, (i, b) ∈ numd 0 pre → held Z M w i b ∧ ∀ x, blk (Z i) = some x → M x) →
    (∀ i j b c, (i, b) ∈ numd 0 pre → (j, c) ∈ numd 0 pre → i ≠ j → ∀ x, blk (Z i) = some x → blk (Z j) ≠ some x) →
    Calls P f us.toArray w fun e w' => ∃ v, e = .returned v ∧ After k (callSp k pre r post) Z M w v w'
end Go.Ab

/- The second layer: what a function hands back; the contract from the walk. No conditions. -/
namespace Go.Ab
open Go.RowKit
set_option linter.unusedVariables false

mutual
inductive Rt (H : Nat → Option Blk) (L : Nat) (G : List Nat) : AV → AV → List Nat → Prop
  | na (a) : Rt H L G a .na []
  | r (c) : Rt H L G (.r c) (.r c) []
  | rp (cs) : Rt H L G (.rp cs) (.rp cs) []
  | fr (i T sz es) : H i = some (.row T sz es) → Rt H L G (.ow i) (.fr T sz es) [i]
  | fz (j T sz es) : H j = some (.row T sz es) → j ∈ G → Rt H L G (.ow j) (.r (.sl sz es)) []
  | pt (i o) : i < L → Rt H L G (.pt i o) (.pt i o) []
  | ow (i) : i < L → Rt H L G (.ow i) (.ow i) []
  | ag (cs ds F) : RtL H L G cs ds F → Rt H L G (.ag cs) (.ag ds) F
  | tu (cs ds F) : RtL H L G cs ds F → Rt H L G (.tu cs) (.tu ds) F
inductive RtL (H : Nat → Option Blk) (L : Nat) (G : List Nat) : List AV → List AV → List Nat → Prop
  | nil : RtL H L G [] [] []
  | cons (a d as ds F F') : Rt H L G a d F → RtL H L G as ds F' → RtL H L G (a :: as) (d :: ds) (F ++ F')
end

section
variable {H : Nat → Option Blk} {L : Nat} {G : List Nat} {Z Z' : Nat → Value} {B B' : Nat → Prop} {w : World}
mutual
theorem Rt.nums : ∀ {a d : AV} {F : List Nat} (_ : Rt H L G a d F) (k : Nat), (d.unfr k).2.length = F.length ∧ ∀ (j : Nat) (b : Blk), (d.unfr k).2[j]? = some b → ∃ i T sz es, F[j]? = some i ∧ H i = some b ∧ b = .row T sz es
  | _, _, _, .na a, k => by simp [AV.unfr]
  | _, _, _, .r a, k => by simp [AV.unfr]
  | _, _, _, .rp a, k => by simp [AV.unfr]
  | _, _, _, .fr i T sz es h, k => by
    simp only [AV.unfr]
    refine ⟨rfl, fun j b hb => ?_⟩
    cases j with
    | zero => simp at hb; subst hb; exact ⟨i, T, sz, es, rfl, h, rfl⟩
    | succ j => simp at hb
  | _, _, _, .fz j T sz es h hg, k => by simp [AV.unfr]
  | _, _, _, .pt i o h, k => by simp [AV.unfr]
  | _, _, _, .ow i h, k => by simp [AV.unfr]
  | _, _, _, .ag cs ds F h, k => by simp only [AV.unfr]; exact RtL.nums h k
  | _, _, _, .tu cs ds F h, k => by simp only [AV.unfr]; exact RtL.nums h k
theorem RtL.nums : ∀ {as ds : List AV} {F : List Nat} (_ : RtL H L G as ds F) (k : Nat), (AV.unfrs ds k).2.length = F.length ∧ ∀ (j : Nat) (b : Blk), (AV.unfrs ds k).2[j]? = some b → ∃ i T sz es, F[j]? = some i ∧ H i = some b ∧ b = .row T sz es
  | _, _, _, .nil, k => by simp [AV.unfrs]
  | _, _, _, .cons a d as ds F F' h1 h2, k => by
    simp only [AV.unfrs]
    obtain ⟨e1, g1⟩ := Rt.nums h1 k
    obtain ⟨e2, g2⟩ := RtL.nums h2 (k + (d.unfr k).2.length)
    refine ⟨by rw [List.length_append, List.length_append, e1, ← e1, e2, e1], fun j b hb => ?_⟩
    rcases Nat.lt_or_ge j (d.unfr k).2.length with hj | hj
    · rw [List.getElem?_append_left hj] at hb
      obtain ⟨i, T, sz, es, h3, h4⟩ := g1 j b hb
      exact ⟨i, T, sz, es, by rw [List.getElem?_append_left (by omega)]; exact h3, h4⟩
    · rw [List.getElem?_append_right hj] at hb
      obtain ⟨i, T, sz, es, h3, h4⟩ := g2 _ b hb
      exact ⟨i, T, sz, es, by rw [List.getElem?_append_right (by omega), ← e1]; exact h3, h4⟩
end
mutual
theorem Rt.rep (hB : ∀ k, k < w.heap.size → B' k → B k) (hG : ∀ j b, j ∈ G → H j = some b → held Z B w j b ∧ ∀ x, blk (Z j) = some x → ¬ B' x) (hL : ∀ i, i < L → Z' i = Z i) :
    ∀ {a d : AV} {F : List Nat} (_ : Rt H L G a d F) (k : Nat) (_ : ∀ (j i : Nat), F[j]? = some i → Z' (k + j) = Z i) (u : Value), AV.rep Z B w a u → AV.rep Z' B' w (d.unfr k).1 u
  | _, _, _, .na a, k, _, u, h => by simp only [AV.unfr, AV.rep]
  | _, _, _, .r c, k, _, u, h => by simp only [AV.unfr]; exact AV.rep_mono (Upto.refl _) hB _ (fun i hi => by simp [AV.ids] at hi) _ h
  | _, _, _, .rp c, k, _, u, h => by simp only [AV.unfr]; exact AV.rep_mono (Upto.refl _) hB _ (fun i hi => by simp [AV.ids] at hi) _ h
  | _, _, _, .fr i T sz es hi, k, hz, u, h => by simp only [AV.unfr, AV.rep] at h ⊢; rw [h]; exact (hz 0 i rfl).symm
  | _, _, _, .fz j T sz es hj hg, k, _, u, h => by
    simp only [AV.unfr, AV.rep] at h ⊢
    subst h
    obtain ⟨⟨us, h1, h2, h3⟩, h4⟩ := hG j _ hg hj
    exact rows_of_own (n := 0) h1 h2 h3 hB h4
  | _, _, _, .pt i o hi, k, _, u, h => by simp only [AV.unfr, AV.rep] at h ⊢; rw [hL i hi]; exact h
  | _, _, _, .ow i hi, k, _, u, h => by simp only [AV.unfr, AV.rep] at h ⊢; rw [hL i hi]; exact h
  | _, _, _, .ag cs ds F hc, k, hz, u, h => by
    simp only [AV.unfr, AV.rep] at h ⊢
    obtain ⟨us, e, h⟩ := h
    exact ⟨us, e, RtL.reps hB hG hL hc k hz _ h⟩
  | _, _, _, .tu cs ds F hc, k, hz, u, h => by
    simp only [AV.unfr, AV.rep] at h ⊢
    obtain ⟨us, e, h⟩ := h
    exact ⟨us, e, RtL.reps hB hG hL hc k hz _ h⟩
theorem RtL.reps (hB : ∀ k, k < w.heap.size → B' k → B k) (hG : ∀ j b, j ∈ G → H j = some b → held Z B w j b ∧ ∀ x, blk (Z j) = some x → ¬ B' x) (hL : ∀ i, i < L → Z' i = Z i) :
    ∀ {as ds : List AV} {F : List Nat} (_ : RtL H L G as ds F) (k : Nat) (_ : ∀ (j i : Nat), F[j]? = some i → Z' (k + j) = Z i) (us : List Value), AV.reps Z B w as us → AV.reps Z' B' w (AV.unfrs ds k).1 us
  | _, _, _, .nil, k, _, us, h => by simp only [AV.unfrs, AV.reps] at h ⊢; exact h
  | _, _, _, .cons a d as ds F F' h1 h2, k, hz, us, h => by
    simp only [AV.unfrs, AV.reps] at h ⊢
    obtain ⟨u, us', e, h3, h4⟩ := h
    have e1 := (Rt.nums h1 k).1
    refine ⟨u, us', e, Rt.rep hB hG hL h1 k (fun j i hj => hz j i ?_) u h3, RtL.reps hB hG hL h2 _ (fun j i hj => ?_) us' h4⟩
    · have : j < F.length := by
        rcases Nat.lt_or_ge j F.length with h' | h'
        · exact h'
        · rw [List.getElem?_eq_none h'] at hj; cases hj
      rw [List.getElem?_append_left this]; exact hj
    · rw [e1, Nat.add_assoc]
      refine hz (F.length + j) i ?_
      rw [List.getElem?_append_right (by omega)]
      simpa using hj
end
end

theorem numd_mem : ∀ {k : Nat} {l : List Blk} {i : Nat} {b : Blk}, (i, b) ∈ numd k l ↔ k ≤ i ∧ l[i - k]? = some b
  | k, [], i, b => by simp [numd]
  | k, c :: l, i, b => by
    rw [numd, List.mem_cons, numd_mem (k := k + 1) (l := l)]
    constructor
    · rintro (e | ⟨h1, h2⟩)
      · injection e with e1 e2; subst e1 e2; exact ⟨Nat.le_refl _, by simp⟩
      · exact ⟨by omega, by rw [show i - k = (i - (k + 1)) + 1 by omega, List.getElem?_cons_succ]; exact h2⟩
    · rintro ⟨h1, h2⟩
      rcases Nat.lt_or_ge k i with h | h
      · exact .inr ⟨by omega, by rw [show i - k = (i - (k + 1)) + 1 by omega, List.getElem?_cons_succ] at h2; exact h2⟩
      · have : i = k := by omega
        subst this
        simp at h2
        subst h2
        exact .inl rfl
theorem numdO_mem {l : List (Nat × Blk)} {i : Nat} {o : Option Blk} : (i, o) ∈ numdO l ↔ ∃ b, o = some b ∧ (i, b) ∈ l := by
  unfold numdO
  rw [List.mem_map]
  constructor
  · rintro ⟨⟨j, b⟩, h, e⟩
    injection e with e1 e2
    subst e1 e2
    exact ⟨b, rfl, h⟩
  · rintro ⟨b, rfl, h⟩
    exact ⟨_, h, rfl⟩

/-! ## Results -/
def itemS (tmps : Array Value) : ResultVar → Sem Value
  | .tmp t => pure (tmps.getD t undef)
  | .cell a t => do loadVar t (← asAddr (tmps.getD a undef))
set_option linter.unusedSimpArgs false
theorem at_assoc {α β γ : Type} (r : Result α) (f : α → World → Result β) (g : β → World → Result γ) : (r.andThen f).andThen g = r.andThen fun a w => (f a w).andThen g := by cases r <;> rfl
theorem at_ok {α : Type} (r : Result α) : (r.andThen fun a w => .ok a w) = r := by cases r <;> rfl
theorem results_one {P : Program} {fn : Func} {r : ResultVar} {tmps : Array Value} {w : World} {v : Value} (h : fn.results = #[r]) (h1 : (itemS tmps r).run P w = .ok v w) : (results fn tmps).run P w = .ok v w := by
  have : (results fn tmps).run P w = ((itemS tmps r).run P w).andThen fun v w => .ok v w := by
    cases r <;> simp [results, h, itemS, at_assoc, at_ok]
  rw [this, h1]; rfl
theorem results_two {P : Program} {fn : Func} {r s : ResultVar} {tmps : Array Value} {w : World} {v u : Value} (h : fn.results = #[r, s]) (h1 : (itemS tmps r).run P w = .ok v w) (h2 : (itemS tmps s).run P w = .ok u w) : (results fn tmps).run P w = .ok (.tuple #[v, u]) w := by
  have : (results fn tmps).run P w = ((itemS tmps r).run P w).andThen fun v w => ((itemS tmps s).run P w).andThen fun u w => .ok (.tuple #[v, u]) w := by
    cases r <;> cases s <;> simp [results, h, itemS, at_assoc, at_ok]
  rw [this, h1]; simp only [Result.andThen_ok, h2]
theorem results_three {P : Program} {fn : Func} {r s t : ResultVar} {tmps : Array Value} {w : World} {v u x : Value} (h : fn.results = #[r, s, t]) (h1 : (itemS tmps r).run P w = .ok v w) (h2 : (itemS tmps s).run P w = .ok u w) (h3 : (itemS tmps t).run P w = .ok x w) : (results fn tmps).run P w = .ok (.tuple #[v, u, x]) w := by
  have : (results fn tmps).run P w = ((itemS tmps r).run P w).andThen fun v w => ((itemS tmps s).run P w).andThen fun u w => ((itemS tmps t).run P w).andThen fun x w => .ok (.tuple #[v, u, x]) w := by
    cases r <;> cases s <;> cases t <;> simp [results, h, itemS, at_assoc, at_ok]
  rw [this, h1]; simp only [Result.andThen_ok, h2, h3]

def isAggD : TypeDesc → Bool
  | .struct _ | .array _ _ => true
  | _ => false
/-- What a place of the results reads as. -/
inductive ResV (P : Program) (S : St) : ResultVar → AV → Prop
  | tmp (t) (x) : S.envF t = x → ResV P S (.tmp t) x
  | agg (p ty i T cs d) : S.envF p = .pt i 0 → S.HF i = some (.var T cs) → P.underlying ty = some d → isAggD d = true → (P.info? ty).map (·.size) = some cs.length → ResV P S (.cell p ty) (.ag cs)
  | one (p ty i T c d) : S.envF p = .pt i 0 → S.HF i = some (.var T [c]) → P.underlying ty = some d → isAggD d = false → ResV P S (.cell p ty) c
theorem run_loadVar_one {P : Program} (w : World) (a : Addr) (ty : TypeId) (d : TypeDesc) (u : Value) (hu : P.underlying ty = some d) (hd : isAggD d = false) (hc : w.cell? a = some u) : (loadVar ty a).run P w = .ok u w := by
  have : (isAgg ty).run P w = .ok false w := by
    simp only [isAgg, Sem.run_bind, run_underlying hu, Result.andThen_ok]
    cases d <;> first | rfl | (simp [isAggD] at hd)
  simp only [loadVar, Sem.run_bind, this, Result.andThen_ok]
  simp [hc]
theorem reps_size {Z : Nat → Value} {B : Nat → Prop} {w : World} {cs : List AV} {us : Array Value} (h : AV.reps Z B w cs us.toList) : cs.length = us.size := by simpa using AV.reps_len h
theorem ResV.run {P : Program} {S : St} {C : Cx} {D : Nat → Prop} {Z : Nat → Value} {a : Act} {w : World} (hs : SimF C D S.envF S.HF Z a w) {r : ResultVar} {x : AV} (h : ResV P S r x) : ∃ v, (itemS a.tmps r).run P w = .ok v w ∧ x.rep Z (Own C S.HF Z) w v := by
  cases h with
  | tmp t x h1 => subst h1; exact ⟨_, rfl, hs.slots t⟩
  | agg p ty i T cs d h1 h2 h3 h4 h5 =>
    have h6 := hs.slots p
    rw [h1, AV.rep] at h6
    obtain ⟨b, e1, e2⟩ := h6
    obtain ⟨b', us, e3, hg, hr, _⟩ := (hs.holds i _ h2).1
    rw [e3] at e1
    simp only [blk, Option.some.injEq] at e1
    obtain rfl : b = b' := e1.symm
    refine ⟨.agg us, ?_, ?_⟩
    · have e2' : a.tmps[p]?.getD undef = .pointer (some ⟨b, 0, none⟩) := by simpa using e2
      simp only [itemS, Sem.run_bind]
      have : (asAddr (a.tmps.getD p undef)).run P w = .ok ⟨b, 0, none⟩ w := by rw [e2]; rfl
      rw [this]
      simp only [Result.andThen_ok]
      exact run_loadVar_row w b T ty us (0, 0) d hg h3 (by cases d <;> first | rfl | (simp [isAggD] at h4)) (by rw [h5, reps_size hr])
    · rw [AV.rep]; exact ⟨us, rfl, hr⟩
  | one p ty i T c d h1 h2 h3 h4 =>
    have h6 := hs.slots p
    rw [h1, AV.rep] at h6
    obtain ⟨b, e1, e2⟩ := h6
    obtain ⟨b', us, e3, hg, hr, _⟩ := (hs.holds i _ h2).1
    rw [e3] at e1
    simp only [blk, Option.some.injEq] at e1
    obtain rfl : b = b' := e1.symm
    rw [AV.reps] at hr
    obtain ⟨u, us', e4, h7, h8⟩ := hr
    refine ⟨u, ?_, h7⟩
    simp only [itemS, Sem.run_bind]
    have : (asAddr (a.tmps.getD p undef)).run P w = .ok ⟨b, 0, none⟩ w := by rw [e2]; rfl
    rw [this]
    simp only [Result.andThen_ok]
    refine run_loadVar_one w _ ty d u h3 h4 ?_
    rw [cell_of_row w b 0 us T (0, 0) hg]
    have : us[0]? = us.toList[0]? := by simp
    rw [this, e4]; rfl

/-- The results of a function as one value. -/
inductive ResA (P : Program) (S : St) (fn : Func) : AV → Prop
  | one (r x) : fn.results = #[r] → ResV P S r x → ResA P S fn x
  | two (r s x y) : fn.results = #[r, s] → ResV P S r x → ResV P S s y → ResA P S fn (.tu [x, y])
  | three (r s t x y z) : fn.results = #[r, s, t] → ResV P S r x → ResV P S s y → ResV P S t z → ResA P S fn (.tu [x, y, z])
theorem ResA.run {P : Program} {S : St} {C : Cx} {D : Nat → Prop} {Z : Nat → Value} {a : Act} {w : World} (hs : SimF C D S.envF S.HF Z a w) {fn : Func} {x : AV} (h : ResA P S fn x) : ∃ v, (results fn a.tmps).run P w = .ok v w ∧ x.rep Z (Own C S.HF Z) w v := by
  cases h with
  | one r x h1 h2 =>
    obtain ⟨v, h3, h4⟩ := h2.run hs
    exact ⟨v, results_one h1 h3, h4⟩
  | two r s x y h1 h2 h3 =>
    obtain ⟨v, h4, h5⟩ := h2.run hs
    obtain ⟨u, h6, h7⟩ := h3.run hs
    refine ⟨_, results_two h1 h4 h6, ?_⟩
    simp only [AV.rep, AV.reps]
    exact ⟨_, rfl, v, _, rfl, h5, u, _, rfl, h7, rfl⟩
  | three r s t x y z h1 h2 h3 h4 =>
    obtain ⟨v, h5, h6⟩ := h2.run hs
    obtain ⟨u, h7, h8⟩ := h3.run hs
    obtain ⟨q, h9, h10⟩ := h4.run hs
    refine ⟨_, results_three h1 h5 h7 h9, ?_⟩
    simp only [AV.rep, AV.reps]
    exact ⟨_, rfl, v, _, rfl, h6, u, _, rfl, h8, q, _, rfl, h10, rfl⟩

def retNums (L : Ln) (F G : List Nat) : Bool := (F.all fun i => Nat.ble L.n i) && (G.all fun i => Nat.beq L.m 0 && Nat.ble L.n i && F.all fun j => !Nat.beq i j) && decide F.Nodup
/-- What stands at the end: the results; own blocks of the caller hold what is said. -/
structure RetOk (P : Program) (L : Ln) (fn : Func) (S : St) (r : AV) (post : List (Option Blk)) : Prop where
  ex : ∃ x F G, ResA P S fn x ∧ Rt S.HF L.n G x r F ∧ retNums L F G = true
  post : ∀ i b, (i, some b) ∈ numdP 0 post → S.HF i = some b ∧ b.ids = []

theorem numdP_mem : ∀ {k : Nat} {l : List (Option Blk)} {i : Nat} {b : Option Blk}, (i, b) ∈ numdP k l ↔ k ≤ i ∧ l[i - k]? = some b
  | k, [], i, b => by simp [numdP]
  | k, c :: l, i, b => by
    rw [numdP, List.mem_cons, numdP_mem (k := k + 1) (l := l)]
    constructor
    · rintro (e | ⟨h1, h2⟩)
      · injection e with e1 e2; subst e1 e2; exact ⟨Nat.le_refl _, by simp⟩
      · exact ⟨by omega, by rw [show i - k = (i - (k + 1)) + 1 by omega, List.getElem?_cons_succ]; exact h2⟩
    · rintro ⟨h1, h2⟩
      rcases Nat.lt_or_ge k i with h | h
      · exact .inr ⟨by omega, by rw [show i - k = (i - (k + 1)) + 1 by omega, List.getElem?_cons_succ] at h2; exact h2⟩
      · have : i = k := by omega
        subst this
        simp at h2
        subst h2
        exact .inl rfl
theorem moved_none : ∀ (l : List (Option Blk)) (i : Nat), i < moved l → l[i]? = some none
  | [], i, h => by simp [moved] at h
  | some b :: l, i, h => by simp [moved] at h
  | none :: l, 0, h => rfl
  | none :: l, i + 1, h => by
    rw [moved] at h
    rw [List.getElem?_cons_succ]
    exact moved_none l i (by omega)
theorem ret_after {P : Program} {fn : Func} {S : St} {r : AV} {pre : List Blk} {post : List (Option Blk)} {C : Cx} {a : Act} {w : World} {k : Nat} (hs : Sim C S a w) (hpl : post.length = C.nl) (hmv : C.ln.m = moved post) (hk : C.nl ≤ k) (hr : RetOk P C.ln fn S r post) :
    ∃ v, (results fn a.tmps).run P w = .ok v w ∧ After k (callSp k pre r post) C.Z0 C.M0 C.w0 v w := by
  obtain ⟨Z, hs⟩ := hs
  obtain ⟨⟨x, F, G, hx, hrt, hn⟩, hpost⟩ := hr
  obtain ⟨v, hv, hrep⟩ := hx.run hs
  unfold retNums at hn
  simp only [Bool.and_eq_true, List.all_eq_true, ble_t, decide_eq_true_eq] at hn
  obtain ⟨⟨n1, n2⟩, n3⟩ := hn
  obtain ⟨hl, hb⟩ := hrt.nums k
  refine ⟨v, hv, fun i => if k ≤ i ∧ i < k + F.length then Z (F.getD (i - k) 0) else C.Z0 i, ?_⟩
  generalize hZ : (fun i => if k ≤ i ∧ i < k + F.length then Z (F.getD (i - k) 0) else C.Z0 i) = Z'
  have hZ1 : ∀ (j i : Nat), F[j]? = some i → Z' (k + j) = Z i := by
    intro j i hj
    have hjl : j < F.length := by
      rcases Nat.lt_or_ge j F.length with h' | h'
      · exact h'
      · rw [List.getElem?_eq_none h'] at hj; cases hj
    rw [← hZ]
    simp only
    rw [if_pos (by omega), show k + j - k = j by omega, List.getD_eq_getElem?_getD, hj]
    rfl
  have hZ2 : ∀ i, i < C.nl → Z' i = Z i := by
    intro i hi
    rw [← hZ]
    simp only
    rw [if_neg (by omega), (hs.zl i hi).1]
  have hfr : ∀ j, j < F.length → ∃ i b, F[j]? = some i ∧ S.HF i = some b ∧ i ∈ F := by
    intro j hj
    have h1 : (r.unfr k).2[j]? = some ((r.unfr k).2[j]'(by omega)) := List.getElem?_eq_getElem _
    obtain ⟨i, T, sz, es, h2, h3, _⟩ := hb j _ h1
    exact ⟨i, _, h2, h3, List.mem_of_getElem? h2⟩
  have hlen : (callSp k pre r post).frs.length = F.length := hl
  have hB : ∀ q, q < w.heap.size → New k (callSp k pre r post) Z' C.M0 q → Own C S.HF Z q := by
    rintro q _ (h0 | ⟨j, hj, hjq⟩)
    · exact .inl h0
    · obtain ⟨i, b, h1, h2, _⟩ := hfr j (by omega)
      rw [hZ1 j i h1] at hjq
      exact .inr ⟨i, b, h2, hjq⟩
  have hG : ∀ j b, j ∈ G → S.HF j = some b → held Z (Own C S.HF Z) w j b ∧ ∀ x, blk (Z j) = some x → ¬ New k (callSp k pre r post) Z' C.M0 x := by
    intro j b hj hjb
    refine ⟨(hs.holds j b hjb).1, fun x hx => ?_⟩
    obtain ⟨⟨g0, g1⟩, g2⟩ := n2 j hj
    have g0 := Nat.eq_of_beq_eq_true g0
    rintro (h0 | ⟨q, hq, hqx⟩)
    · have := hs.m0 x h0
      rcases hs.fresh j b x hjb hx with h3 | h3 | ⟨q, h3, _⟩
      · unfold Cx.nl at h3; omega
      · omega
      · omega
    · obtain ⟨i, c, h1, h2, h3⟩ := hfr q (by omega)
      rw [hZ1 q i h1] at hqx
      have hne : j ≠ i := fun e => by have := g2 i h3; simp [e] at this
      exact hs.dist j i b c hjb h2 hne x hx hqx
  refine ⟨fun i hi => ?_, hrt.rep hB hG hZ2 k hZ1 v hrep, fun i b hib => ?_, fun j b hjb => ?_, fun j j' q hj hj' hne h1 h2 => ?_, fun j q hj hq => ?_, ?_⟩
  · rw [← hZ]
    simp only
    rw [if_neg (by omega)]
  · have hm : (i, some b) ∈ numdP 0 post := hib
    obtain ⟨h1, h2⟩ := hpost i b hm
    have hi : i < C.nl := by
      have h3 := (numdP_mem.1 hm).2
      have : i - 0 < post.length := by
        rcases Nat.lt_or_ge (i - 0) post.length with h' | h'
        · exact h'
        · rw [List.getElem?_eq_none h'] at h3; cases h3
      omega
    exact ((hs.holds i b h1).1).keep (Upto.refl _) hB (hZ2 i hi) (fun q hq => by rw [h2] at hq; cases hq) (fun _ _ => rfl)
  · obtain ⟨i, T, sz, es, h1, h2, h3⟩ := hb j b hjb
    subst h3
    obtain ⟨us, g1, g2, g3⟩ := (hs.holds i _ h2).1
    exact ⟨us, by rw [hZ1 j i h1]; exact g1, g2.mono (Upto.refl _) hB, g3⟩
  · obtain ⟨i, b, h3, h4, _⟩ := hfr j (by omega)
    obtain ⟨i', b', h5, h6, _⟩ := hfr j' (by omega)
    rw [hZ1 j i h3] at h1
    rw [hZ1 j' i' h5] at h2
    refine hs.dist i i' b b' h4 h6 (fun e => hne ?_) q h1 h2
    subst e
    have hj1 : j < F.length := by omega
    have hj2 : j' < F.length := by omega
    rw [List.getElem?_eq_getElem hj1] at h3
    rw [List.getElem?_eq_getElem hj2] at h5
    injection h3 with h3
    injection h5 with h5
    have hp := List.pairwise_iff_getElem.1 n3
    rcases Nat.lt_trichotomy j j' with h | h | h
    · exact absurd (h3.trans h5.symm) (hp j j' hj1 hj2 h)
    · exact h
    · exact absurd (h5.trans h3.symm) (hp j' j hj2 hj1 h)
  · obtain ⟨i, b, h3, h4, h5⟩ := hfr j (by omega)
    rw [hZ1 j i h3] at hq
    have := n1 i h5
    rcases hs.fresh i b q h4 hq with h6 | h6 | ⟨p, h6, h7⟩
    · unfold Cx.nl at h6; omega
    · exact .inl h6
    · exact .inr ⟨p, numdP_mem.2 ⟨Nat.zero_le _, by rw [Nat.sub_zero]; exact moved_none post p (by omega)⟩, h7⟩
  · refine hs.frame.mono fun q _ => ?_
    rintro ⟨i, hi, hiq⟩
    have : i < post.length := by omega
    refine ⟨i, post[i], numdP_mem.2 ⟨Nat.zero_le _, ?_⟩, hiq⟩
    simp [this]

def numE : Nat → List AV → List (Nat × AV)
  | _, [] => []
  | k, x :: xs => (k, x) :: numE (k + 1) xs
theorem get_numE : ∀ (k : Nat) (xs : List AV) (t : Nat), get (numE k xs) t = if k ≤ t then xs.getD (t - k) .na else .na
  | k, [], t => by simp [numE, get]
  | k, x :: xs, t => by
    rw [numE, get, get_numE (k + 1) xs t]
    by_cases h : k = t
    · subst h; simp
    · have h1 : Nat.beq k t = false := by cases hb : Nat.beq k t with
        | false => rfl
        | true => exact absurd (Nat.eq_of_beq_eq_true hb) h
      rw [h1]
      simp only [cond_false]
      by_cases h2 : k + 1 ≤ t
      · rw [if_pos h2, if_pos (by omega), show t - k = (t - (k + 1)) + 1 by omega, List.getD_cons_succ]
      · rw [if_neg h2, if_neg (by omega)]
theorem getH_numdO : ∀ (k : Nat) (l : List Blk) (i : Nat) (b : Blk), getH (numdO (numd k l)) i = some b → (i, b) ∈ numd k l := by
  intro k l i b h
  obtain ⟨b', e, hm⟩ := numdO_mem.1 (getH_mem h)
  injection e with e
  subst e
  exact hm
def argsOk (args : List AV) (pre : List Blk) : Bool := ((AV.idss args).all fun i => Nat.blt i pre.length) && pre.all fun b => b.ids.all fun i => Nat.blt i pre.length
theorem idss_mem : ∀ {xs : List AV} {x : AV} {i : Nat}, x ∈ xs → i ∈ x.ids → i ∈ AV.idss xs
  | y :: ys, x, i, h, hi => by
    rw [AV.idss]
    rcases List.mem_cons.1 h with e | e
    · subst e; exact List.mem_append_left _ hi
    · exact List.mem_append_right _ (idss_mem e hi)

def St0 (args : List AV) (pre : List Blk) : St := ⟨numE 0 args, numdO (numd 0 pre), pre.length⟩
/-- From the walk of the body to the contract. -/
theorem fn_of {P : Program} {f : FuncId} {fn : Func} {c : Code} {args : List AV} {pre : List Blk} {post : List (Option Blk)} {r : AV} (hf : P.funcs[f]? = some fn) (hb : fn.body = some c) (hn : args.length ≤ fn.ntmps) (hok : argsOk args pre = true) (hpl : post.length = pre.length)
    (h : awp P ⟨pre.length, moved post⟩ fn.ntmps c (fun e S => (e = .normal ∨ e = .ret) ∧ RetOk P ⟨pre.length, moved post⟩ fn S r post) (St0 args pre)) : Meets P f args pre r post := by
  intro w Z M k us hM hk hargs hpre hdist
  unfold argsOk at hok
  simp only [Bool.and_eq_true, List.all_eq_true, blt_t] at hok
  obtain ⟨o1, o2⟩ := hok
  have hlen := AV.reps_len hargs
  let C : Cx := ⟨P, w, M, Z, ⟨pre.length, moved post⟩, fn.ntmps, []⟩
  have hmv : moved post ≤ pre.length := by
    have : ∀ l : List (Option Blk), moved l ≤ l.length := by
      intro l
      induction l with
      | nil => exact Nat.le_refl _
      | cons x l ih => cases x <;> simp [moved]; omega
    have := this post
    omega
  have hH : ∀ i b, (St0 args pre).HF i = some b → (i, b) ∈ numd 0 pre := fun i b h => getH_numdO 0 pre i b h
  have hlt : ∀ i b, (i, b) ∈ numd 0 pre → i < pre.length ∧ b ∈ pre := by
    intro i b h
    have h1 := (numd_mem.1 h).2
    rw [Nat.sub_zero] at h1
    refine ⟨?_, List.mem_of_getElem? h1⟩
    rcases Nat.lt_or_ge i pre.length with h' | h'
    · exact h'
    · rw [List.getElem?_eq_none h'] at h1; cases h1
  have hB : ∀ q, q < w.heap.size → Own C (St0 args pre).HF Z q → M q := by
    rintro q _ (h0 | ⟨i, b, h1, h2⟩)
    · exact h0
    · exact (hpre i b (hH i b h1)).2 q h2
  have S : Sim C (St0 args pre) { tmps := us.toArray ++ Array.replicate (fn.ntmps - us.toArray.size) undef, defers := [] } w := by
    refine ⟨Z, by simp [C]; omega, rfl, Upto.refl _, hM, fun t => ?_, fun t i hi => ?_, fun i b hb => ?_, fun i j b c hi hj hij => ?_, fun i b x hi hx => .inl (hlt i b (hH i b hi)).1, hmv, fun i hi => ⟨rfl, hi⟩⟩
    · show (get (numE 0 args) t).rep _ _ _ _
      rw [get_numE, if_pos (Nat.zero_le _), Nat.sub_zero, List.getD_eq_getElem?_getD]
      cases ht : args[t]? with
      | none => simp only [Option.getD_none, AV.rep]
      | some x =>
        obtain ⟨u, hu, hr⟩ := AV.reps_get hargs ht
        simp only [Option.getD_some]
        refine AV.rep_mono (Upto.refl _) hB x (fun _ _ => rfl) _ ?_
        have htl : t < us.length := by
          rcases Nat.lt_or_ge t us.length with h' | h'
          · exact h'
          · rw [List.getElem?_eq_none h'] at hu; cases hu
        have : (us.toArray ++ Array.replicate (fn.ntmps - us.toArray.size) undef).getD t undef = u := by
          rw [Array.getD_eq_getD_getElem?, Array.getElem?_append_left (by simpa using htl)]
          simp [hu]
        rw [this]; exact hr
    · have hi' : i ∈ (get (numE 0 args) t).ids := hi
      rw [get_numE, if_pos (Nat.zero_le _), Nat.sub_zero, List.getD_eq_getElem?_getD] at hi'
      cases ht : args[t]? with
      | none => rw [ht] at hi'; simp [AV.ids] at hi'
      | some x => rw [ht] at hi'; exact o1 i (idss_mem (List.mem_of_getElem? ht) hi')
    · have h1 := hH i b hb
      obtain ⟨h2, h3⟩ := hlt i b h1
      exact ⟨(hpre i b h1).1.anti hB, h2, fun j hj => o2 b h3 j hj⟩
    · exact hdist i j b c (hH i b hi) (hH j c hj) hij
  refine calls_of_wp hf hb (Code.wp_mono (fun e a' w' ⟨S', ⟨he, hr⟩, hS'⟩ => ?_) (h C rfl rfl rfl _ _ S))
  obtain ⟨v, hv, hA⟩ := ret_after (pre := pre) (k := k) hS' hpl rfl hk hr
  have hdf : a'.defers = [] := by obtain ⟨Z, h⟩ := hS'; exact h.defers
  rcases he with rfl | rfl
  · exact ⟨hdf, v, hv, v, rfl, hA⟩
  · exact ⟨hdf, v, hv, v, rfl, hA⟩
end Go.Ab
