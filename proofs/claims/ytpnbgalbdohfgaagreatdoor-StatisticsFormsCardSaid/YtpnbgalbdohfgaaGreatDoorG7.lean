/- Texts of the second layer in one: So0. -/
import Derived.Test.YtpnbgalbdohfgaaGreatDoorG6
import Derived.Lib.AppendIntMem
set_option linter.unusedVariables false
set_option linter.unusedSimpArgs false
namespace Go.Ab
open Go.RowKit
theorem zhi {β : Type} [Inhabited β] (e : β → Value) {w : World} {g T n : Nat} {cur : Array Value} {D : Array β} {os : Array Obj} (hg : w.heap[g]? = some (.cells cur T (0, 0))) (hD : D.size ≤ cur.size) :
  ∃ cur', (Go.Sort.grow (Go.Sort.putRow e (Go.Sort.ahead w n) g 0 D) os).heap[g]? = some (.cells cur' T (0, 0)) ∧ cur'.size = cur.size ∧ cur'.toList.take D.size = D.toList.map e ∧ Upto (fun x => x = g) w (Go.Sort.grow (Go.Sort.putRow e (Go.Sort.ahead w n) g 0 D) os) := by
 have hlt : g < w.heap.size := zbM hg
 have hh : (Go.Sort.grow (Go.Sort.putRow e (Go.Sort.ahead w n) g 0 D) os).heap = w.heap.modify g (Go.Sort.onCells (Go.Sort.putCells e 0 D)) ++ os := rfl
 refine ⟨Go.Sort.putCells e 0 D cur, ?_, by simp [Go.Sort.putCells], ?_, ⟨rfl, rfl, rfl, by rw [hh]; simp, fun k hk hn => ?_⟩⟩
 ·rw [hh, Array.getElem?_append_left (by simpa using hlt), Array.getElem?_modify, if_pos rfl, hg]
  rfl
 ·apply List.ext_getElem
  ·simp [Go.Sort.putCells]; omega
  ·intro i h1 h2
   have hi : i < D.size := by simpa using h2
   simp only [Go.Sort.putCells, List.getElem_take, Array.getElem_toList, Array.getElem_mapIdx, List.getElem_map]
   rw [if_pos ⟨Nat.zero_le _, by omega⟩]
   congr 1
   rw [Nat.sub_zero, getElem!_pos D i hi]
 ·rw [hh, Array.getElem?_append_left (by simpa using hk), Array.getElem?_modify, if_neg (fun h => hn h.symm)]
theorem RVs.of_raw {B : Nat → Prop} {w : World} : ∀ {vs us : List Value}, RVs B w (vs.map RV.v) us → us = vs ∧ ∀ v ∈ vs, v.oneCell' = true
 | [], us, h => by cases h; exact ⟨rfl, fun v hv => by cases hv⟩
 | v :: vs, us, h => by
  rw [List.map_cons] at h
  cases h with
  | cons h1 h2 h3 =>
   rw [RV.rep] at h2
   subst h2
   obtain ⟨e, h4⟩ := RVs.of_raw h3
   subst e
   exact ⟨rfl, fun x hx => by
    rcases List.mem_cons.1 hx with rfl | hx
    ·exact h1
    ·exact h4 x hx⟩
theorem RVs.raw {B : Nat → Prop} {w : World} : ∀ {vs : List Value}, (∀ v ∈ vs, v.oneCell' = true) → RVs B w (vs.map RV.v) vs
 | [], _ => .nil
 | v :: vs, h => .cons (h v (List.mem_cons_self ..)) (by rw [RV.rep]) (RVs.raw fun x hx => h x (List.mem_cons_of_mem _ hx))
def rawR (vss : List (List Value)) : List (List RV) := vss.map (List.map RV.v)
theorem zhF (vss : List (List Value)) : (rawR vss).flatten = vss.flatten.map RV.v := by
 induction vss with
 | nil => rfl
 | cons v vss ih => simp [rawR] at ih ⊢
theorem zjm {P : Program} {f : FuncId} {rest : List AV} {T sz : Nat} {vss vss' : List (List Value)} (hp : vss'.Perm vss)
  (h0 : vss = [] → ∀ w Z M us, AV.reps Z M w rest us → Calls P f (.slice none 0 0 :: us).toArray w fun e w' => e = .returned (.tuple #[]) ∧ Below w.heap.size w w')
  (h1 : ∀ w Z M us g cap cur, AV.reps Z M w rest us → w.heap[g]? = some (.cells cur T (0, 0)) → vss.length ≤ cap → cap ≤ maxLen → cur.size = cap * sz → cur.toList.take (vss.length * sz) = vss.flatten →
   Calls P f (.slice (some ⟨g, 0, none⟩) vss.length cap :: us).toArray w fun e w' => e = .returned (.tuple #[]) ∧ ∃ cur', w'.heap[g]? = some (.cells cur' T (0, 0)) ∧ cur'.size = cur.size ∧ cur'.toList.take (vss.length * sz) = vss'.flatten ∧ Upto (fun x => x = g) w w') :
  zaq P f (.ow 0 :: rest) [.row T sz (rawR vss)] (.tu []) [some (.row T sz (rawR vss'))] := by
 intro w Z M k us hM hk hargs hpre hdist
 have hlen' : vss'.length = vss.length := hp.length_eq
 rw [AV.reps] at hargs
 obtain ⟨u, us', rfl, hu, hus⟩ := hargs
 rw [AV.rep] at hu
 subst hu
 obtain ⟨⟨vs, k1, k2, k3⟩, hm⟩ := hpre 0 (.row T sz (rawR vss)) (by simp [numd])
 rw [zhF] at k2
 obtain ⟨rfl, ho⟩ := RVs.of_raw k2
 have hszs : ∀ v ∈ vss', v.length = sz := fun v hv => by
  have := k3 (v.map RV.v) (List.mem_map_of_mem (hp.mem_iff.1 hv))
  simpa using this
 have ho' : ∀ v ∈ vss'.flatten, v.oneCell' = true := fun v hv => by
  obtain ⟨l, hl, hv⟩ := List.mem_flatten.1 hv
  exact ho v (List.mem_flatten.2 ⟨l, hp.mem_iff.1 hl, hv⟩)
 have hl0 : (rawR vss).length = vss.length := by simp [rawR]
 have hl1 : (rawR vss').length = vss.length := by simp [rawR, hlen']
 rw [hl0] at k1
 have fin : ∀ w', w'.ownsRow 0 T sz (Z 0) vss.length vss'.flatten → Upto (fun x => blk (Z 0) = some x) w w' → zi7 k (zaI k [.row T sz (rawR vss)] (.tu []) [some (.row T sz (rawR vss'))]) Z M w (.tuple #[]) w' := by
  intro w' hw hU
  refine ⟨Z, fun _ _ => rfl, ?_, ?_, fun j b h => by simp [zaI, AV.unfr, AV.unfrs] at h, fun j j' x h => by simp [zaI, AV.unfr, AV.unfrs] at h, fun j x h => by simp [zaI, AV.unfr, AV.unfrs] at h, hU.mono fun x _ hx => ⟨0, _, by simp [zaI, zbq]; rfl, hx⟩⟩
  ·show AV.rep _ _ _ (.tu []) _
   rw [AV.rep]
   exact ⟨#[], rfl, by rw [AV.reps]⟩
  ·intro i b hb
   simp [zaI, zbq] at hb
   obtain ⟨rfl, rfl⟩ := hb
   refine ⟨vss'.flatten, by rw [hl1]; exact hw, by rw [zhF]; exact RVs.raw ho', fun e he => ?_⟩
   obtain ⟨v, hv, rfl⟩ := List.mem_map.1 he
   rw [List.length_map]; exact hszs v hv
 obtain ⟨kl, kc⟩ := k1
 rcases kc with ⟨e, hn⟩ | ⟨g, cap, cur, e, _, hg, hnc, hcm, hcs, htk⟩
 ·have hv0 : vss = [] := List.eq_nil_of_length_eq_zero hn
  refine Calls.mono (by rw [e]; exact h0 hv0 w Z M us' hus) ?_
  rintro e' w' ⟨rfl, hb⟩
  refine ⟨_, rfl, fin w' ?_ (Upto.of_below hb)⟩
  have hv1 : vss' = [] := List.eq_nil_of_length_eq_zero (by omega)
  rw [hv1]
  exact ⟨by simp [hn], .inl ⟨e, hn⟩⟩
 ·refine Calls.mono (by rw [e]; exact h1 w Z M us' g cap cur hus hg hnc hcm hcs htk) ?_
  rintro e' w' ⟨rfl, cur', q1, q2, q3, q4⟩
  refine ⟨_, rfl, fin w' ⟨?_, .inr ⟨g, cap, cur', e, Nat.zero_le _, q1, hnc, hcm, by rw [q2]; exact hcs, q3⟩⟩ (q4.mono fun x _ hx => by subst hx; rw [e]; rfl)⟩
  have hc' : cur'.toList.length = cap * sz := by rw [← hcs, ← q2]; simp
  rw [← q3, List.length_take, hc']
  exact Nat.min_eq_left (Nat.mul_le_mul_right _ hnc)
end Go.Ab
