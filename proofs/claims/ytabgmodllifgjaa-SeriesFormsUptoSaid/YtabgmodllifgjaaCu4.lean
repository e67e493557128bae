/- Chapter 12: the iterator of series.parts. Conditions: lengths. -/
import Derived.Test.YtabgmodllifgjaaCu1
import Derived.Test.YtabgmodllifgjaaCu3
import Derived.RangeFuncNested
import Derived.RangeFuncBound
import Derived.RangeFuncCalls
import Derived.RangeFuncLeaves
import Derived.Shelf.Abstract
import Derived.Shelf.RegionOpen
import Derived.WalkKit
import Derived.OwnWalkIn
import Derived.TacticsInMore
import Derived.LoopNIn
import Derived.LoopIn
import Derived.Test.YtabgmodllifgjaaSe10
namespace Go.Proofs.Ytabgmodllifgjaa
open Go.RowKit Go.Shelf
attribute [local go_sem] Oper.semAt_some
set_option maxRecDepth 100000
set_option linter.unusedVariables false

/-- The cells of samples. -/
def flatv (l : List (Int × Int)) : List Value := l.flatMap fun s => [.int .i64 s.1, .int .i64 s.2]
theorem flatv_len (l : List (Int × Int)) : (flatv l).length = l.length * 2 := by
  induction l with
  | nil => rfl
  | cons a l ih => rw [flatv, List.flatMap_cons, List.length_append, ← flatv, ih, List.length_cons]; simp; omega
theorem flatv_append (a b : List (Int × Int)) : flatv (a ++ b) = flatv a ++ flatv b := by simp [flatv]
theorem flatv_one (l : List (Int × Int)) : ∀ u ∈ flatv l, u.oneCell' = true := by
  intro u hu
  simp only [flatv, List.mem_flatMap, List.mem_cons, List.not_mem_nil, or_false] at hu
  obtain ⟨b, _, rfl | rfl⟩ := hu <;> rfl
theorem flatv_sub (l : List (Int × Int)) (b k : Nat) (h : b + k ≤ l.length) (j : Nat) (u : Value) (hj : (flatv ((l.drop b).take k))[j]? = some u) : (flatv l)[b * 2 + j]? = some u := by
  have e : l = l.take b ++ ((l.drop b).take k ++ (l.drop b).drop k) := by rw [List.take_append_drop, List.take_append_drop]
  have hlt : j < (flatv ((l.drop b).take k)).length := (List.getElem?_eq_some_iff.1 hj).1
  rw [e, flatv_append, flatv_append]
  have hb : (flatv (l.take b)).length = b * 2 := by rw [flatv_len, List.length_take]; omega
  rw [List.getElem?_append_right (by omega), hb, Nat.add_sub_cancel_left, List.getElem?_append_left hlt]
  exact hj

/-- What a turn of the loop's body keeps: what lay ahead of the loop, but for the variable's block; and the rows of samples. -/
structure KeepsC (B ob : Nat) (W W' : World) : Prop where
  size : W.heap.size ≤ W'.heap.size
  old : ∀ k, k < B → k ≠ ob → W'.heap[k]? = W.heap[k]?
  rows : ∀ (k : Nat) (cs : Array Value) fz, W.heap[k]? = some (.cells cs 54 fz) → W'.heap[k]? = some (.cells cs 54 fz)
theorem KeepsC.size' {ob : Nat} {W W' : World} (h : KeepsC W.heap.size ob W W') : W.heap.size ≤ W'.heap.size := h.size
theorem KeepsC.refl (B ob : Nat) (W : World) : KeepsC B ob W W := ⟨Nat.le_refl _, fun _ _ _ => rfl, fun _ _ _ h => h⟩
theorem KeepsC.trans {B ob : Nat} {X Y Z : World} (h : KeepsC B ob X Y) (k : KeepsC B ob Y Z) : KeepsC B ob X Z :=
  ⟨Nat.le_trans h.size k.size, fun i hi hn => (k.old i hi hn).trans (h.old i hi hn), fun i cs fz hi => k.rows i cs fz (h.rows i cs fz hi)⟩
theorem KeepsC.putObj {B ob : Nat} (W : World) (l : Nat) (o o' : Obj) (hB : B ≤ l) (hl : W.heap[l]? = some o) (ho : o.isCells = false) : KeepsC B ob W (W.putObj l o') := by
  have hg := grownBy_putObj' W l o'
  refine ⟨hg.size, fun k hk _ => hg.block k ?_ ?_, fun k cs fz hk => (hg.block k (Array.getElem?_eq_some_iff.1 hk).1 ?_).trans hk⟩
  · have := (Array.getElem?_eq_some_iff.1 hl).1; omega
  · intro e; cases e; omega
  · intro e; cases e; rw [hl] at hk; cases hk; cases ho
theorem KeepsC.below {B ob n : Nat} {W W' : World} (hB : B ≤ W.heap.size) (h : Below W.heap.size W W') : KeepsC B ob W W' :=
  ⟨h.size, fun k hk _ => h.block k (by omega), fun k cs fz hk => (h.block k (Array.getElem?_eq_some_iff.1 hk).1).trans hk⟩

/-- The values are the parts, as slices of their own. -/
inductive PartsAt (B : Nat) (W : World) : List (List (Int × Int)) → List Value → Prop
  | nil : PartsAt B W [] []
  | cons {p : List (Int × Int)} {v : Value} {P : List (List (Int × Int))} {xs : List Value} : p ≠ [] → W.ownsRow B 54 2 v p.length (flatv p) → PartsAt B W P xs → PartsAt B W (p :: P) (v :: xs)
theorem PartsAt.snoc {B : Nat} {W : World} {p : List (Int × Int)} {v : Value} (hp : p ≠ []) (hv : W.ownsRow B 54 2 v p.length (flatv p)) {P : List (List (Int × Int))} {xs : List Value} (h : PartsAt B W P xs) : PartsAt B W (P ++ [p]) (xs ++ [v]) := by
  induction h with
  | nil => exact .cons hp hv .nil
  | cons h1 h2 _ ih => exact .cons h1 h2 ih
theorem ownsS_rows {B : Nat} {W W' : World} {v : Value} {n : Nat} {us : List Value} (h : W.ownsRow B 54 2 v n us) (hr : ∀ (k : Nat) (cs : Array Value) fz, W.heap[k]? = some (.cells cs 54 fz) → W'.heap[k]? = some (.cells cs 54 fz)) : W'.ownsRow B 54 2 v n us := by
  refine ⟨h.1, ?_⟩
  rcases h.2 with hn | ⟨g, cap, cur, hv, hb, hg, rest⟩
  · exact .inl hn
  · exact .inr ⟨g, cap, cur, hv, hb, hr _ _ _ hg, rest⟩
theorem PartsAt.kept {B : Nat} {P : List (List (Int × Int))} {xs : List Value} {W W' : World} (h : PartsAt B W P xs) (hr : ∀ (k : Nat) (cs : Array Value) fz, W.heap[k]? = some (.cells cs 54 fz) → W'.heap[k]? = some (.cells cs 54 fz)) : PartsAt B W' P xs := by
  induction h with
  | nil => exact .nil
  | cons h1 h2 _ ih => exact .cons h1 (ownsS_rows h2 hr) ih
theorem PartsAt.own {B : Nat} {P : List (List (Int × Int))} : OwnFrom B (fun xs W => PartsAt B W P xs) := by
  intro xs W W' row h hg hr
  refine PartsAt.kept h fun k cs fz hk => (hg.block k (Array.getElem?_eq_some_iff.1 hk).1 ?_).trans hk
  intro e
  obtain ⟨_, o, ho, hc⟩ := hr k e.symm
  rw [hk] at ho; cases ho; cases hc
theorem PartsAt.len {B : Nat} {P : List (List (Int × Int))} {xs : List Value} {W : World} (h : PartsAt B W P xs) : xs.length = P.length := by
  induction h with
  | nil => rfl
  | cons _ _ _ ih => rw [List.length_cons, List.length_cons, ih]

theorem flAny_any (fl : List Int) (e : Int) : flAny fl fl.length e = fl.any fun f => decide (f = e) := by
  unfold flAny
  rw [Bool.eq_iff_iff]
  simp only [List.any_eq_true, List.mem_range, decide_eq_true_eq]
  constructor
  · rintro ⟨j, hj, h⟩
    exact ⟨fl[j], List.getElem_mem hj, by simpa [List.getElem?_eq_getElem hj] using h⟩
  · rintro ⟨f, hf, h⟩
    obtain ⟨j, hj, e⟩ := List.getElem_of_mem hf
    exact ⟨j, hj, by simp [List.getElem?_eq_getElem hj, e, h]⟩
theorem plainElem_bool_inv {H : Type} {P : Program} {e : TypeId} (he : P.underlying e = some .bool) {v : Value} {x : Bool} {ps : List MemPlace} (h : plainElem (H := H) P e v = some (.lit (.bool x), ps)) : v = .bool x := by
  unfold plainElem at h
  rw [he] at h
  cases v <;> simp at h
  rw [h.1]

def mapHas (l : List (Int × Int)) (fl : List Int) (i : Nat) : Bool := decide (((i : Int) + 1) = (l.length : Int)) || fl.any fun f => decide (f = ((i : Int) + 1))
theorem part_next {α : Type} (l : List α) (b i : Nat) (hbi : b ≤ i) (hlt : i < l.length) : (l.drop b).take (i - b) ++ [l[i]] = (l.drop b).take (i + 1 - b) := by
  rw [show i + 1 - b = (i - b) + 1 by omega, List.take_add_one, List.getElem?_drop, show b + (i - b) = i by omega, List.getElem?_eq_getElem hlt]
  rfl
theorem cut_next (l : List (Int × Int)) (size : Int) (fl : List Int) (i b : Nat) (out : List (List (Int × Int))) (hbi : b ≤ i) (hlt : i < l.length) (hsz : (i : Int) - b < size) :
    cutR size fl l.length (l.drop i) i ((l.drop b).take (i - b)) out =
      if decide (((i : Int) + 1) - (b : Int) < size) && !mapHas l fl i then cutR size fl l.length (l.drop (i + 1)) (i + 1) ((l.drop b).take (i + 1 - b)) out
      else cutR size fl l.length (l.drop (i + 1)) (i + 1) [] (out ++ [(l.drop b).take (i + 1 - b)]) := by
  have hpl : ((l.drop b).take (i - b)).length = i - b := by rw [List.length_take, List.length_drop]; omega
  have hce : cutE size fl l.length i ((l.drop b).take (i - b)).length = !(decide (((i : Int) + 1) - (b : Int) < size) && !mapHas l fl i) := by
    unfold cutE mapHas
    rw [hpl, flAny_any]
    have e2 : decide (i + 1 = l.length) = decide (((i : Int) + 1) = (l.length : Int)) := by rw [decide_eq_decide]; omega
    have e3 : decide (((i - b + 1 : Nat) : Int) = size) = !decide (((i : Int) + 1) - (b : Int) < size) := by
      rw [Bool.eq_iff_iff]; simp; omega
    rw [e2, e3]
    generalize decide (((i : Int) + 1) = (l.length : Int)) = x
    generalize decide (((i : Int) + 1) - (b : Int) < size) = y
    generalize (fl.any fun f => decide (f = ((i : Int) + 1))) = z
    cases x <;> cases y <;> cases z <;> rfl
  rw [List.drop_eq_getElem_cons hlt, cutR, hce, part_next l b i hbi hlt]
  generalize (decide (((i : Int) + 1) - (b : Int) < size) && !mapHas l fl i) = t
  cases t <;> rfl

set_option maxHeartbeats 2000000 in
theorem iter_gives (l : List (Int × Int)) (size : Int) (fl : List Int) (A : Option Addr) (c : Nat) (B1 B2 E M ob : Nat) (w : World)
    (h1 : 1 ≤ size) (hl : l.length ≤ 8796093022000) (hs : size ≤ 9223372036854775807) (hc : l.length ≤ c) (hcm : c ≤ 9223372036854775807)
    (b1 : Boxed w B1 43 (.slice A l.length c)) (b2 : Boxed w B2 3 (.int .i64 size)) (b3 : Boxed w E 133 (.map (some M)))
    (n1 : B1 ≠ ob) (n2 : B2 ≠ ob) (n3 : E ≠ ob) (nM : M ≠ ob)
    (hM : w.ownsMap Try.prog 3 (plainElem Try.prog 4) M (fl.length + 1) (endsD l.length fl fl.length))
    (hcells : 0 < l.length → ∃ ad, A = some ad ∧ ad.block < w.heap.size ∧ ad.block ≠ ob ∧ ∀ j u, (flatv l)[j]? = some u → w.cell? (ad.add j) = some u) :
    GivesW Fence.wide 5 Try.prog 118 #[.pointer (some ⟨B1, 0, none⟩), .pointer (some ⟨B2, 0, none⟩), .pointer (some ⟨E, 0, none⟩)] (KeepsC w.heap.size ob) (fun xs W => PartsAt w.heap.size W (cutL l size fl) xs) l.length w := by
  intro L J W hW hJ hY h0
  have kW : KeepsC w.heap.size ob w W := KeepsC.below (n := 0) (Nat.le_refl _) hW
  refine callsIn_of_wp Try.func118 rfl trivial ?_ rfl
  simp only [Try.ntmps118, List.size_toArray, List.length_cons, List.length_nil, Nat.reduceAdd, Nat.reduceSub, Array.replicate_succ, Array.replicate_zero, List.push_toArray, List.append_toArray, List.nil_append, List.cons_append]
  gi_wp2
  gi_loopw [5, 6] (fun vb ve wr => ∃ (i b : Nat) (out : List (List (Int × Int))) (xs : List Value), vb = .int .i64 b ∧ ve = .int .i64 ((i : Int) + 1) ∧ b ≤ i ∧ i ≤ l.length ∧ (i : Int) - b < size ∧ out.length ≤ b ∧
    cutR size fl l.length (l.drop i) i ((l.drop b).take (i - b)) out = cutL l size fl ∧ PartsAt w.heap.size wr out xs ∧ KeepsC w.heap.size ob w wr ∧ J xs wr) (fun _ ve _ => l.length + 1 - (intOf ve).toNat)
  case atStart => exact ⟨0, 0, [], [], rfl, by go_num, Nat.le_refl _, Nat.zero_le _, by omega, Nat.le_refl _, rfl, .nil, kW, h0⟩
  case round =>
    obtain ⟨i, b, out, xs, rfl, rfl, hbi, hil, hsz, hob, hcut, hP, hK, hJs⟩ := hrel
    have c1 : wr.cell? ⟨B1, 0, none⟩ = some (.slice A l.length c) := (World.cell?_of_block (a := ⟨B1, 0, none⟩) (hK.old B1 b1.lt n1)).trans b1.cell
    have c2 : wr.cell? ⟨B2, 0, none⟩ = some (.int .i64 size) := (World.cell?_of_block (a := ⟨B2, 0, none⟩) (hK.old B2 b2.lt n2)).trans b2.cell
    have c3 : wr.cell? ⟨E, 0, none⟩ = some (.map (some M)) := (World.cell?_of_block (a := ⟨E, 0, none⟩) (hK.old E b3.lt n3)).trans b3.cell
    have hMr : wr.ownsMap Try.prog 3 (plainElem Try.prog 4) M (fl.length + 1) (endsD l.length fl fl.length) := by
      obtain ⟨es, ck, hb, rest⟩ := hM
      exact ⟨es, ck, (hK.old M (Array.getElem?_eq_some_iff.1 hb).1 nM).trans hb, rest⟩
    by_cases hlt : i < l.length
    · have hwf : (Lit.int .i64 ((i : Int) + 1)).wf = true := by
        have h1 : IntKind.i64.min ≤ ((i : Int) + 1) := by have : IntKind.i64.min = -9223372036854775808 := rfl; omega
        have h2 : ((i : Int) + 1) ≤ IntKind.i64.max := by have : IntKind.i64.max = 9223372036854775807 := rfl; omega
        unfold Lit.wf
        simp only [Bool.and_eq_true, decide_eq_true_eq]
        exact ⟨h1, h2⟩
      obtain ⟨v0, ps0, hlook, hv0⟩ := hMr.lookup (Maps.int_keyed Try.underlying3) (t := 133) Try.underlying133 (Try.zeroValue4 wr) (plainElem_bool Try.underlying4 false) (Maps.keyOf_int_mk Try.underlying3 hwf)
      rw [endsD_at] at hv0
      change _ = some (DataW.lit (Lit.bool (mapHas l fl i)), _) at hv0
      obtain rfl := plainElem_bool_inv Try.underlying4 hv0
      have HC := Lib.hid (cut_next l size fl i b out hbi hlt hsz)
      rw [hcut] at HC
      generalize hmx : mapHas l fl i = mx at *
      clear hv0 hcut hM kW h0 b1 b2 b3 hMr hwf
      by_cases hsx : ((i : Int) + 1) - (b : Int) < size
      · cases mx with
        | false =>
          gi_wp2
          go_roundw
          case rel => exact ⟨i + 1, b, out, xs, rfl, by go_num, by omega, hlt, by omega, hob, by have h := HC.out; rw [decide_eq_true hsx] at h; exact h.symm, hP, hK, hJs⟩
          case measure => simp [intOf]; omega
        | true =>
          obtain ⟨ad, rfl, hadb, hado, hadc⟩ := hcells (by omega)
          have hpl : ((l.drop b).take (i + 1 - b)).length = i + 1 - b := by rw [List.length_take, List.length_drop]; omega
          gi_wp2_with fail
          have hcl := cloneS_any (ad.add (b * 2)) (i + 1 - b) (c - b) (flatv ((l.drop b).take (i + 1 - b))) wr (by rw [flatv_len, hpl]) (by omega) (fun j u hj => by
            rw [Go.Ab.add_add]
            refine (World.cell?_of_block (a := ad.add (b * 2 + j)) ?_).trans (hadc _ _ (flatv_sub l b (i + 1 - b) (by omega) j u hj))
            rw [Go.Ab.add_block]
            exact hK.old _ hadb hado) (flatv_one _)
          refine ⟨trivial, (callsIn_wide.2 hcl).mono ?_⟩
          clear hcl
          rintro e w1 ⟨v', rfl, hown, hbw⟩
          rw [show i + 1 - b = (i - b) + 1 by omega] at hown
          obtain ⟨g, cap, rfl⟩ := ownsRow_succ hown
          rw [show (i - b) + 1 = i + 1 - b by omega] at hown ⊢
          have hJ1 := hJ xs wr w1 none hJs ⟨hbw.os, hbw.tape, hbw.output, hbw.size, fun k hk _ => hbw.block k hk⟩ (by simp)
          obtain ⟨fn, tmps, assign, body, hy, hR⟩ := hY xs (.slice (some ⟨g, 0, none⟩) (i + 1 - b) cap) w1 hJ1 (by rw [hP.len]; omega) ⟨_, _, _, rfl⟩
          have hK1 := hK.trans (KeepsC.below (n := 0) (ob := ob) hK.size hbw)
          have hP1 := PartsAt.snoc (B := w.heap.size) (W := w1) (p := (l.drop b).take (i + 1 - b)) (v := .slice (some ⟨g, 0, none⟩) (i + 1 - b) cap) (by intro e; rw [e] at hpl; simp at hpl; omega) (by
            rw [hpl]
            refine ⟨hown.1, hown.2.imp id ?_⟩
            rintro ⟨g', cap', cur, e1, e2, rest⟩
            exact ⟨g', cap', cur, e1, Nat.le_trans hK.size e2, rest⟩) (hP.kept fun k cs fz hk => (hbw.block k (Array.getElem?_eq_some_iff.1 hk).1).trans hk)
          gi_wp2
          refine hR.mono ?_
          rintro e W3 ⟨rfl, hJ3, hk3⟩
          gi_wp2
          go_roundw
          case rel => exact ⟨i + 1, i + 1, out ++ [(l.drop b).take (i + 1 - b)], _, by go_num, by go_num, Nat.le_refl _, hlt, by omega, by rw [List.length_append]; simp; omega, by rw [Nat.sub_self, List.take_zero]; have h := HC.out; simp only [Bool.not_true, Bool.and_false, Bool.false_eq_true, if_false] at h; exact h.symm, hP1.kept hk3.rows, hK1.trans hk3, hJ3⟩
          case measure => simp [intOf]; omega
      · have hsx' : size ≤ (i : Int) + 1 - b := by omega
        obtain ⟨ad, rfl, hadb, hado, hadc⟩ := hcells (by omega)
        have hpl : ((l.drop b).take (i + 1 - b)).length = i + 1 - b := by rw [List.length_take, List.length_drop]; omega
        gi_wp2_with fail
        have hcl := cloneS_any (ad.add (b * 2)) (i + 1 - b) (c - b) (flatv ((l.drop b).take (i + 1 - b))) wr (by rw [flatv_len, hpl]) (by omega) (fun j u hj => by
          rw [Go.Ab.add_add]
          refine (World.cell?_of_block (a := ad.add (b * 2 + j)) ?_).trans (hadc _ _ (flatv_sub l b (i + 1 - b) (by omega) j u hj))
          rw [Go.Ab.add_block]
          exact hK.old _ hadb hado) (flatv_one _)
        refine ⟨trivial, (callsIn_wide.2 hcl).mono ?_⟩
        clear hcl
        rintro e w1 ⟨v', rfl, hown, hbw⟩
        rw [show i + 1 - b = (i - b) + 1 by omega] at hown
        obtain ⟨g, cap, rfl⟩ := ownsRow_succ hown
        rw [show (i - b) + 1 = i + 1 - b by omega] at hown ⊢
        have hJ1 := hJ xs wr w1 none hJs ⟨hbw.os, hbw.tape, hbw.output, hbw.size, fun k hk _ => hbw.block k hk⟩ (by simp)
        obtain ⟨fn, tmps, assign, body, hy, hR⟩ := hY xs (.slice (some ⟨g, 0, none⟩) (i + 1 - b) cap) w1 hJ1 (by rw [hP.len]; omega) ⟨_, _, _, rfl⟩
        have hK1 := hK.trans (KeepsC.below (n := 0) (ob := ob) hK.size hbw)
        have hP1 := PartsAt.snoc (B := w.heap.size) (W := w1) (p := (l.drop b).take (i + 1 - b)) (v := .slice (some ⟨g, 0, none⟩) (i + 1 - b) cap) (by intro e; rw [e] at hpl; simp at hpl; omega) (by
          rw [hpl]
          refine ⟨hown.1, hown.2.imp id ?_⟩
          rintro ⟨g', cap', cur, e1, e2, rest⟩
          exact ⟨g', cap', cur, e1, Nat.le_trans hK.size e2, rest⟩) (hP.kept fun k cs fz hk => (hbw.block k (Array.getElem?_eq_some_iff.1 hk).1).trans hk)
        gi_wp2
        refine hR.mono ?_
        rintro e W3 ⟨rfl, hJ3, hk3⟩
        gi_wp2
        go_roundw
        case rel => exact ⟨i + 1, i + 1, out ++ [(l.drop b).take (i + 1 - b)], _, by go_num, by go_num, Nat.le_refl _, hlt, by omega, by rw [List.length_append]; simp; omega, by rw [Nat.sub_self, List.take_zero]; have h := HC.out; simp only [decide_eq_false (Int.not_lt.2 hsx), Bool.false_and, Bool.false_eq_true, if_false] at h; exact h.symm, hP1.kept hk3.rows, hK1.trans hk3, hJ3⟩
        case measure => simp [intOf]; omega
    · obtain rfl : i = l.length := by omega
      gi_wp2
      go_end0
      rw [List.drop_eq_nil_of_le (Nat.le_refl _), cutR] at hcut
      subst hcut
      exact ⟨⟨_, rfl⟩, xs, hP, hJs⟩
end Go.Proofs.Ytabgmodllifgjaa
