/- Chapter 12: series.parts: the map of the ends, and the boxes. Conditions: lengths. -/
import Derived.Test.YtabgmodllifgjaaCu2
import Derived.Maps.OwnIn
import Derived.RangeFuncBox
import Derived.Carry
import Derived.LoopTactic
import Derived.Test.YtabgmodllifgjaaGA
namespace Go.Proofs.Ytabgmodllifgjaa
open Go.RowKit
set_option maxRecDepth 100000
set_option linter.unusedVariables false

/-- 'm[k] = v' in a literal. -/
theorem wpList_insert_own {H : Type} {P : Program} (w : World) {ops : Array Oper} {rest : List Oper} {o : Oper} {a : Act} {Q : Exit → Act → World → Prop}
    (hg : o.guard = none) (m x v : Operand) (t : TypeId) (hop : o.op = Op.insert t m x v)
    (k e : TypeId) (K : Maps.Keyed P k) (ht : P.underlying t = some (.map k e)) (R : Value → Option (DataW H × List MemPlace)) (b n : Nat) (D : DataW H)
    (hm : a.eval m = .map (some b)) (hown : w.ownsMap P k R b n D) (hn : n < maxLen) (key val : Value) (kl : Lit) (hx : a.eval x = key) (hv : a.eval v = val) (hkey : keyOf P k key = some kl)
    (d : DataW H) (ps : List MemPlace) (hval : R val = some (d, ps))
    (hK : ∀ w', w'.ownsMap P k R b (n + 1) (D.put kl d) → w.grownBy w' (some b) → wpList P ops Q rest (a.put o.dst undef) w') :
    wpList P ops Q (o :: rest) a w := by
  refine wpList_plain hg fun K' hK' => ?_
  obtain ⟨w', hrun, r1, r2⟩ := hown.update K ht hn hkey hval
  unfold Oper.wp
  simp [execOp, hop, hm, hx, hv, hrun, Result.andThen]
  exact hK' _ _ (hK w' r1 r2)

/-- The datum of the map of ends, the first k flushes being in it. -/
def endsD (n : Nat) (fl : List Int) (k : Nat) : DataW Unit := (fl.take k).foldl (fun D f => D.put (.int .i64 f) (.lit (.bool true))) ((DataW.map []).put (.int .i64 (n : Int)) (.lit (.bool true)))
theorem endsD_succ (n : Nat) (fl : List Int) (k : Nat) (h : k < fl.length) : endsD n fl (k + 1) = (endsD n fl k).put (.int .i64 (fl.getD k 0)) (.lit (.bool true)) := by
  unfold endsD
  rw [List.take_succ_eq_append_getElem h, List.foldl_append]
  simp [h]
theorem endsD_map (n : Nat) (fl : List Int) : ∀ k, Maps.IsMap (endsD n fl k) := by
  unfold endsD
  intro k
  have : ∀ (l : List Int) (D : DataW Unit), Maps.IsMap D → Maps.IsMap (l.foldl (fun D f => D.put (.int .i64 f) (.lit (.bool true))) D) := by
    intro l
    induction l with
    | nil => exact fun D h => h
    | cons a l ih => exact fun D h => ih _ (h.put _ _)
  exact this _ _ (Maps.isMap_empty.put _ _)
theorem endsD_at (n : Nat) (fl : List Int) (e : Int) : (endsD n fl fl.length).atKey (.int .i64 e) (.lit (.bool false)) = .lit (.bool (decide (e = (n : Int)) || fl.any fun f => decide (f = e))) := by
  have : ∀ (l : List Int) (D : DataW Unit) (b : Bool), Maps.IsMap D → D.atKey (.int .i64 e) (.lit (.bool false)) = .lit (.bool b) →
      (l.foldl (fun D f => D.put (.int .i64 f) (.lit (.bool true))) D).atKey (.int .i64 e) (.lit (.bool false)) = .lit (.bool (b || l.any fun f => decide (f = e))) := by
    intro l
    induction l with
    | nil => intro D b _ h; simpa using h
    | cons a l ih =>
      intro D b hD h
      rw [List.foldl_cons, List.any_cons]
      by_cases hae : a = e
      · subst hae
        rw [ih _ true (hD.put _ _) (Maps.atKey_put_same hD (by trivial) _ _)]
        simp
      · rw [ih _ b (hD.put _ _) (by rw [Maps.atKey_put_other (by simpa using fun h => hae h.symm)]; exact h)]
        simp [hae]
  unfold endsD
  rw [List.take_length]
  refine this fl _ _ (Maps.isMap_empty.put _ _) ?_
  by_cases hen : e = (n : Int)
  · subst hen
    rw [Maps.atKey_put_same Maps.isMap_empty (by trivial)]
    simp
  · rw [Maps.atKey_put_other (by simpa using hen)]
    simp [hen]
    rfl

set_option maxHeartbeats 1000000 in
theorem parts_any (A : Option Addr) (n c : Nat) (size : Int) (Af : Option Addr) (fl : List Int) (cf : Nat) (w : World) (hn : n ≤ 9223372036854775807) (hm : fl.length ≤ 17592186044416) (hw : ∀ f ∈ fl, (Lit.int .i64 f).wf = true)
    (hfl : ∀ j, j < fl.length → ∃ ad, Af = some ad ∧ ad.block < w.heap.size ∧ w.cell? (ad.add j) = some (.int .i64 (fl.getD j 0))) :
    Calls Try.prog 91 #[.slice A n c, .int .i64 size, .slice Af fl.length cf] w fun e w' => ∃ E, w.heap.size + 3 ≤ E ∧
      e = .returned (.func (.func 118) #[] #[.pointer (some ⟨w.heap.size, 0, none⟩), .pointer (some ⟨w.heap.size + 1, 0, none⟩), .pointer (some ⟨E, 0, none⟩)]) ∧
      Boxed w' w.heap.size 43 (.slice A n c) ∧ Boxed w' (w.heap.size + 1) 3 (.int .i64 size) ∧ Boxed w' E 133 (.map (some (w.heap.size + 2))) ∧
      w'.ownsMap Try.prog 3 (plainElem Try.prog 4) (w.heap.size + 2) (fl.length + 1) (endsD n fl fl.length) ∧ Below w.heap.size w w' := by
  have hmm := @run_makeMap Try.prog
  have hkn : (Lit.int .i64 (n : Int)).wf = true := by
    have h1 : IntKind.i64.min ≤ (n : Int) := by have : IntKind.i64.min = -9223372036854775808 := rfl; omega
    have h2 : (n : Int) ≤ IntKind.i64.max := by have : IntKind.i64.max = 9223372036854775807 := rfl; omega
    unfold Lit.wf
    simp only [Bool.and_eq_true, decide_eq_true_eq]
    exact ⟨h1, h2⟩
  go_enter Try.func91, Try.ntmps91
  have hm0 := World.ownsMap_made (H := Unit) ((w.alloc (.cells #[.slice A n c] 43)).alloc (.cells #[.int .i64 size] 3)) Try.prog 3 (plainElem Try.prog 4)
  have bS := (Boxed.new w 43 (.slice A n c)).alloc (.cells #[.int .i64 size] 3)
  have bN := Boxed.new (w.alloc (.cells #[.slice A n c] 43)) 3 (.int .i64 size)
  simp only [World.size_alloc] at bN hm0
  have bel0 : Below w.heap.size w ((w.alloc (.cells #[.slice A n c] 43)).alloc (.cells #[.int .i64 size] 3)) := ((Below.refl _ w).alloc (Nat.le_refl _) _).alloc (by simp) _
  go_wp2_with (refine wpList_insert_own _ rfl _ _ _ 133 rfl 3 4 (Maps.int_keyed Try.underlying3) Try.underlying133 _ (w.heap.size + 1 + 1) 0 _ rfl hm0 (by unfold maxLen; omega) _ _ _ rfl rfl (Maps.keyOf_int_mk Try.underlying3 hkn) _ [] (plainElem_bool Try.underlying4 true) ?_; intro w1 hown1 hgrow1)
  have hsz1 : w.heap.size + 3 ≤ w1.heap.size := by have := hgrow1.size; simpa using this
  have b1 := ((bS.alloc (.map #[] 0)).kept hgrow1 (by simp; omega)).alloc (.cells #[.map (some (w.heap.size + 1 + 1))] 133)
  have b2 := ((bN.alloc (.map #[] 0)).kept hgrow1 (by simp)).alloc (.cells #[.map (some (w.heap.size + 1 + 1))] 133)
  have b3 := Boxed.new w1 133 (.map (some (w.heap.size + 1 + 1)))
  have m1 := hown1.alloc (.cells #[.map (some (w.heap.size + 1 + 1))] 133)
  have bel1 : Below w.heap.size w (w1.alloc (.cells #[.map (some (w.heap.size + 1 + 1))] 133)) := ((bel0.alloc (by simp; omega) _).grown hgrow1 (by simp; omega) (fun k e => by cases e; omega)).alloc (by omega) _
  generalize w1.heap.size = E at *
  generalize w1.alloc (.cells #[.map (some (w.heap.size + 1 + 1))] 133) = w2 at *
  clear hown1 hgrow1 hm0 bS bN bel0 hmm
  go_loopw [16] (fun i wr => ∃ k : Nat, k ≤ fl.length ∧ i = .int .i64 k ∧ Boxed wr w.heap.size 43 (.slice A n c) ∧ Boxed wr (w.heap.size + 1) 3 (.int .i64 size) ∧ Boxed wr E 133 (.map (some (w.heap.size + 1 + 1))) ∧
    wr.ownsMap Try.prog 3 (plainElem Try.prog 4) (w.heap.size + 1 + 1) (k + 1) (endsD n fl k) ∧ Below w.heap.size w wr) (fun i _ => fl.length - (intOf i).toNat)
  case atStart => exact ⟨0, Nat.zero_le _, rfl, b1, b2, b3, m1, bel1⟩
  case round =>
    obtain ⟨k, hk, rfl, c1, c2, c3, hown, hbel⟩ := hrel
    have hc3 := c3.cell
    by_cases hlt : k < fl.length
    · obtain ⟨ad, rfl, hadb, hadc⟩ := hfl k hlt
      have hcell := (hbel.cell (p := ad.add k) (by rw [Go.Ab.add_block]; exact hadb)).trans hadc
      have hkey := Maps.keyOf_int_mk Try.underlying3 (hw (fl.getD k 0) (by simp [List.getElem?_eq_getElem hlt]))
      have hs := endsD_succ n fl k hlt
      clear hfl
      generalize fl.getD k 0 = f at *
      go_wp2_with (at_mapUpdate; refine wpList_mapUpdate_own _ rfl _ _ _ 133 rfl 3 4 (Maps.int_keyed Try.underlying3) Try.underlying133 _ (w.heap.size + 1 + 1) (k + 1) _ rfl hown (by unfold maxLen; omega) _ _ _ rfl rfl hkey _ [] (plainElem_bool Try.underlying4 true) ?_; intro w3 hown3 hgrow3)
      go_roundw
      case rel => exact ⟨k + 1, hlt, by go_num, c1.kept hgrow3 (by simp; omega), c2.kept hgrow3 (by simp), c3.kept hgrow3 (by simp; omega), hs ▸ hown3, hbel.grown hgrow3 hbel.size (fun k e => by cases e; omega)⟩
      case measure => simp [intOf]; omega
    · obtain rfl : k = fl.length := by omega
      go_wp2
      go_ret
      exact ⟨E, hsz1, rfl, c1, c2, c3, hown, hbel⟩
end Go.Proofs.Ytabgmodllifgjaa
