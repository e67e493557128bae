/- Chapter 12: series.Cut, in the first layer. Conditions: lengths. -/
import Derived.Test.YtabgmodllifgjaaCu4
import Derived.Maps.AppendAt
import Derived.Test.YtabgmodllifgjaaGB
import Derived.OwnWalkIn
namespace Go.Proofs.Ytabgmodllifgjaa
open Go.RowKit Go.Shelf
attribute [local go_sem] Oper.semAt_some
set_option maxRecDepth 100000
set_option linter.unusedVariables false

theorem infoSS : (Try.prog.info? 43).map (fun i => (i.zero, i.size, i.bytes)) = some (some (.slice none 0 0), 1, 24) := by kernel_rfl

theorem KeepsC.grown {B ob : Nat} {X Y : World} {row : Option Nat} (hg : X.grownBy Y row) (hB : B ≤ X.heap.size) (h : ∀ k, row = some k → (k = ob ∨ B ≤ k) ∧ ∀ cs fz, X.heap[k]? ≠ some (.cells cs 54 fz)) : KeepsC B ob X Y := by
  refine ⟨hg.size, fun k hk hn => hg.block k (by omega) ?_, fun k cs fz hk => (hg.block k (Array.getElem?_eq_some_iff.1 hk).1 ?_).trans hk⟩
  · intro e
    rcases (h k e.symm).1 with h' | h'
    · exact hn h'
    · omega
  · intro e
    exact (h k e.symm).2 cs fz hk
theorem ownsRow_base {W : World} {b b' : Nat} {e : TypeId} {size n : Nat} {v : Value} {xs : List Value} (h : W.ownsRow b e size v n xs) (hb : b' ≤ b) : W.ownsRow b' e size v n xs :=
  ⟨h.1, h.2.imp id (fun ⟨g, cap, cur, e, h1, r⟩ => ⟨g, cap, cur, e, by omega, r⟩)⟩
theorem PartsAt.base {B B' : Nat} {W : World} {P : List (List (Int × Int))} {xs : List Value} (h : PartsAt B W P xs) (hb : B' ≤ B) : PartsAt B' W P xs := by
  induction h with
  | nil => exact .nil
  | cons h1 h2 _ ih => exact .cons h1 (ownsRow_base h2 hb) ih

/-- The append of the fenced walk, with the wider bound. -/
theorem wpListIn_append_wide {F : Fence} {n : Nat} {P : Program} (w : World) {ops : Array Oper} {rest : List Oper} {o : Oper} {a : Act} {Q : Exit → Act → World → Prop}
    (hg : o.guard = none) (s x : Operand) (t : TypeId) (hop : o.op = Op.call { callee := Callee.builtin Builtin.append, args := #[s, x], argTypes := #[t, t] })
    (base : Nat) (e : TypeId) (i : TypeInfo) (z : Value) (size bytes : Nat) (h1 : P.underlying t = some (.slice e)) (h2 : P.info? e = some i) (h3 : i.zero = some z) (h4 : i.size = size) (h5 : i.bytes = bytes) (h6 : z.cells.size = size) (h7 : 0 < size)
    (v : Value) (k : Nat) (xs : List Value) (hs : a.eval s = v) (hown : w.ownsRow base e size v k xs) (ad : Addr) (m c : Nat) (news : List Value) (hx : a.eval x = .slice (some ad) m c) (hn : news.length = m * size)
    (hc : ∀ j u, news[j]? = some u → w.cell? (ad.add j) = some u) (h1c : ∀ u ∈ news, u.oneCell' = true) (b1 : k + m ≤ maxLen) (b2 : (k + m) * bytes ≤ 211106232532992) (b4 : bytes ≤ 4096) (b3 : base ≤ w.heap.size)
    (hK : ∀ v' w', w'.ownsRow base e size v' (k + m) (xs ++ news) → w.grownBy w' v.ownBlock → (v' = .slice none 0 0 ↔ v = .slice none 0 0 ∧ m = 0) → wpListIn F n P ops Q rest (a.put o.dst v') w') :
    wpListIn F n P ops Q (o :: rest) a w := by
  refine wpListIn_plain hg fun K hK' => ?_
  obtain ⟨v', w', hrun, r1, r2, r3, _⟩ := Go.Ab.run_append_wide_at (P := P) w base t o.type e i z size bytes h1 h2 h3 h4 h5 h6 h7 v k xs hown ad m c news hn hc h1c b1 (Go.Ab.wide_bound b2 b4) b3
  unfold Oper.wpIn
  refine ⟨?_, ?_⟩
  · simp [Oper.about, hop, resolve, Target.leads, Sem.run_pure]
  · rw [Oper.semAt_plain F _ _ (by rw [hop]; intro c hc'; cases hc')]
    simp [execOp, hop, resolve, invoke, builtin, hs, hx, hrun, Result.andThen]
    exact hK' _ _ (hK v' w' r1 r2 r3)
set_option maxHeartbeats 2000000 in
theorem cut_any (l : List (Int × Int)) (size : Int) (fl : List Int) (A : Option Addr) (c : Nat) (Af : Option Addr) (cf : Nat) (w : World)
    (h1 : 1 ≤ size) (hl : l.length ≤ 8796093022000) (hs : size ≤ 9223372036854775807) (hc : l.length ≤ c) (hcm : c ≤ 9223372036854775807) (hm : fl.length ≤ 17592186044416) (hw : ∀ f ∈ fl, (Lit.int .i64 f).wf = true)
    (hcells : 0 < l.length → ∃ ad, A = some ad ∧ ad.block < w.heap.size ∧ ∀ j u, (flatv l)[j]? = some u → w.cell? (ad.add j) = some u)
    (hfl : ∀ j, j < fl.length → ∃ ad, Af = some ad ∧ ad.block < w.heap.size ∧ w.cell? (ad.add j) = some (.int .i64 (fl.getD j 0))) :
    Calls Try.prog 42 #[.slice A l.length c, .int .i64 size, .slice Af fl.length cf] w fun e w' => ∃ v xs, e = .returned v ∧
      w'.ownsRow w.heap.size 43 1 v xs.length xs ∧ PartsAt w.heap.size w' (cutL l size fl) xs ∧ Below w.heap.size w w' := by
  obtain ⟨i0, hi, hz0, hz1, hz2⟩ := info_parts infoSS
  refine (callsIn_wide (n := 6)).1 ?_
  refine callsIn_of_wp_marks Try.func42 rfl trivial ?_ rfl
  simp only [Try.ntmps42, List.size_toArray, List.length_cons, List.length_nil, Nat.reduceAdd, Nat.reduceSub, Array.replicate_succ, Array.replicate_zero, List.push_toArray, List.append_toArray, List.nil_append, List.cons_append]
  have hsz : ¬ size < 1 := by omega
  gi_wp2_with fail
  have hfl0 : ∀ j, j < fl.length → ∃ ad, Af = some ad ∧ ad.block < (w.alloc (.cells #[.slice none 0 0] 47)).heap.size ∧ (w.alloc (.cells #[.slice none 0 0] 47)).cell? (ad.add j) = some (.int .i64 (fl.getD j 0)) := by
    intro j hj
    obtain ⟨ad, e, hb, hc⟩ := hfl j hj
    refine ⟨ad, e, by simp; omega, (World.cell?_of_block (Below.heap_alloc _ _ _ ?_)).trans hc⟩
    rw [Go.Ab.add_block]; exact hb
  refine ⟨trivial, (callsIn_wide.2 (parts_any A l.length c size Af fl cf _ (by omega) hm hw hfl0)).mono ?_⟩
  clear hfl0
  rintro e w1 ⟨E, hE, rfl, b1, b2, b3, hM, hb⟩
  have bO := Boxed.new w 47 (.slice none 0 0)
  have hB0 : Below w.heap.size w (w.alloc (.cells #[.slice none 0 0] 47)) := (Below.refl _ w).alloc (Nat.le_refl _) _
  rw [World.size_alloc] at hE b1 b2 b3 hM hb
  have bO1 : Boxed w1 w.heap.size 47 (.slice none 0 0) := (hb.block _ (by omega)).trans bO
  have hB1 : Below w.heap.size w w1 := hB0.trans (hb.mono (by omega))
  have hE3 := b3.lt
  have hE2 := b2.lt
  have hM2 := hM.lt
  have hcells1 : 0 < l.length → ∃ ad, A = some ad ∧ ad.block < w1.heap.size ∧ ad.block ≠ w.heap.size ∧ ∀ j u, (flatv l)[j]? = some u → w1.cell? (ad.add j) = some u := by
    intro h
    obtain ⟨ad, e, hb', hc'⟩ := hcells h
    exact ⟨ad, e, Nat.lt_of_lt_of_le hb' hB1.size, by omega, fun j u hj => (hB1.cell (p := ad.add j) (by rw [Go.Ab.add_block]; exact hb')).trans (hc' j u hj)⟩
  have hit := iter_gives l size fl A c (w.heap.size + 1) (w.heap.size + 1 + 1) E (w.heap.size + 1 + 2) w.heap.size w1 h1 hl hs hc hcm b1 b2 b3 (by omega) (by omega) (by omega) (by omega) hM hcells1
  clear b1 b2 b3 hM hcells1 hcells hfl bO hB0 hb
  gi_wp2
  have hlow : w.heap.size < w1.heap.size := by omega
  refine range_all (n := 6) rfl (by omega) (gf := 118) (lb := #[.pointer (some ⟨w.heap.size + 1, 0, none⟩), .pointer (some ⟨w.heap.size + 1 + 1, 0, none⟩), .pointer (some ⟨E, 0, none⟩)]) rfl trivial (enters_of Try.func118 (by kernel_rfl) rfl)
    hit KeepsC.trans (fun W L o o' h1 h2 h3 _ => KeepsC.putObj W L o o' h1 h2 h3) (Below.refl _ _)
    (fun pre W => (∃ v, Boxed W w.heap.size 47 v ∧ W.ownsRow w1.heap.size 43 1 v pre.length pre ∧ True) ∧ Below w.heap.size w W ∧ w1.heap.size ≤ W.heap.size)
    (OwnFrom.and (Own.from (holdsRow_own w1.heap.size w.heap.size 47 43 1 (fun pre => pre.length) (fun pre => pre) (fun _ _ => True)) _) (OwnFrom.and (ownFrom_below (Nat.le_refl _) (by omega)) (fun s X Y row hs hg hr => Nat.le_trans hs hg.size)))
    PartsAt.own ⟨⟨_, bO1, World.ownsRow_nil _ _ _ _, trivial⟩, hB1, Nat.le_refl _⟩
    (fun x => { tmps := #[.slice A l.length c, .int .i64 size, .slice Af fl.length cf, undef, undef, undef, .slice none 0 0, .pointer (some ⟨w.heap.size, 0, none⟩), x, .int .i64 size, .bool false, .slice A l.length c, .int .i64 size, .slice Af fl.length cf, .func (.func 118) #[] #[.pointer (some ⟨w.heap.size + 1, 0, none⟩), .pointer (some ⟨w.heap.size + 1 + 1, 0, none⟩), .pointer (some ⟨E, 0, none⟩)], x, undef, undef, undef, undef, undef], defers := [] }) ?assign ?body ?done
  case assign =>
    intro L x W K hK
    gi_wp2
    exact hK
  case body =>
    rintro L pre x W ⟨⟨v, hv, hrow, _⟩, hB, hBW⟩ hlt ⟨A', m', c', rfl⟩
    have hc := hv.cell
    gi_wp2_with (gi_at_builtin; refine wpListIn_append_wide _ rfl _ _ 47 rfl w1.heap.size 43 i0 (.slice none 0 0) 1 24 Try.underlying47 hi hz0 hz1 hz2 rfl (by decide) _ _ _ rfl (hrow.alloc _) ⟨W.heap.size, 0, none⟩ 1 1 [.slice A' m' c'] rfl rfl (cell_one_new _ _ _) (by simp [Value.oneCell']) (by unfold maxLen; omega) (by omega) (by omega) (by simp; omega) ?_; intro v' w2 hown' hgrow _; obtain ⟨g', cap', rfl⟩ := ownsRow_succ hown'; obtain ⟨hv1, hv2, hr2, hk2, hb2⟩ := hv.appended (by decide) (ownsRow_base hrow (Nat.le_of_lt hlow)) hB.size (Nat.le_refl _) (ownsRow_base hown' (Nat.le_of_lt hlow)) hgrow; have hc1 := hv1.cell; have hf1 := hv1.frozen)
    refine ⟨hk2.from _, ?_, ⟨_, hv2, by simpa using hown'.kept (grownBy_setCell' w2 w.heap.size _) (.inr (hv1.not_row (by decide) hown').symm)⟩, hB.trans hb2, by have := hgrow.size; simp at this; simp; omega⟩
    refine ((KeepsC.below (n := 0) hBW ((Below.refl _ W).alloc (Nat.le_refl _) _)).trans (KeepsC.grown hgrow (by simp; omega) fun k e => ?_)).trans (KeepsC.grown (grownBy_setCell' w2 w.heap.size _) (by have := hgrow.size; simp at this; omega) fun k e => ?_)
    · rcases (hrow.alloc (.cells #[.slice A' m' c'] 43)).2 with ⟨rfl, _⟩ | ⟨g, cap, cur, rfl, hg, hgb, _⟩
      · cases e
      · cases e
        exact ⟨.inr hg, fun cs fz h => by rw [hgb] at h; cases h⟩
    · cases e
      exact ⟨.inl rfl, fun cs fz h => by rw [show w2.heap[w.heap.size]? = _ from hv1] at h; cases h⟩
  case done =>
    rintro D ys W hD hS ⟨⟨v, hv, hrow, _⟩, hB, hBW⟩ hK
    have hc := hv.cell
    gi_wp2
    refine ⟨by simp, .inl ⟨_, _, rfl, run_takeDeferred hK, ?_⟩⟩
    exact ⟨_, results_tmp rfl _ _ _, v, ys, rfl, ownsRow_base (ownsRow_putObj hrow _ hK rfl) (Nat.le_of_lt hlow), (PartsAt.own.putObj _ hS hD hK rfl).base (Nat.le_of_lt hlow), hB.trans (belowK_b (w := w1) (Nat.le_of_lt hlow) W D _ _ hD hK rfl rfl)⟩
end Go.Proofs.Ytabgmodllifgjaa
