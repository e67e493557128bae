/- Texts of the second layer in one: So3 So4 So5. -/
import Derived.Test.YtibedaeefnjjlaaGreatG21
import Derived.Test.YtibedaeefnjjlaaGreatG36
import Derived.Test.YtibedaeefnjjlaaGreatSh
import Derived.Test.YtibedaeefnjjlaaGreatG37
/- Chapter 21: slices.Sort at ints, slices.SortFunc at pieces. Conditions: lengths, good cones, different indexes. --ext8 -/
namespace Go.Proofs.YtibedaeefnjjlaaGreat
open Go.RowKit Go.Ab
set_option maxRecDepth 100000
set_option linter.unusedVariables false
set_option linter.unusedSimpArgs false

theorem holds_of {β : Type} [Inhabited β] (e : β → Value) {w : World} {g T : Nat} {cur : Array Value} {D : Array β} (hg : w.heap[g]? = some (.cells cur T (0, 0))) (ht : cur.toList.take D.size = D.toList.map e) : Go.Sort.Holds e w g 0 D := by
  intro j hj
  have h1 : (cur.toList.take D.size)[j]? = some (e D[j]!) := by
    rw [ht, List.getElem?_map, getElem!_pos D j hj]
    simp [hj]
  rw [List.getElem?_take_of_lt hj] at h1
  have h2 : cur[j]? = some (e D[j]!) := by simpa using h1
  constructor
  · simp only [World.cell?, hg, Nat.zero_add]
    simpa using h2
  · simp [World.frozen?, hg]
theorem flatK_toList {α : Type} [Inhabited α] (enc : α → List Value) {k : Nat} (hk : ∀ x, (enc x).length = k) (d : Array α) : (Go.Sort.flatK enc k d).toList = (d.toList.map enc).flatten := by
  have hk' : ∀ e ∈ d.toList.map enc, e.length = k := fun e he => by
    obtain ⟨x, _, rfl⟩ := List.mem_map.1 he; exact hk x
  apply List.ext_getElem?
  intro t
  rcases Nat.lt_or_ge t (d.size * k) with h | h
  · have hkp : 0 < k := by
      rcases Nat.eq_zero_or_pos k with h0 | h0
      · subst h0; simp at h
      · exact h0
    have hq : t / k < d.size := (Nat.div_lt_iff_lt_mul hkp).2 h
    have hr : t % k < k := Nat.mod_lt _ hkp
    have e1 : (d.toList.map enc)[t / k]? = some (enc d[t / k]!) := by
      rw [List.getElem?_map, getElem!_pos d _ hq]; simp [hq]
    have e2 : (enc d[t / k]!)[t % k]? = some (enc d[t / k]!)[t % k]! := by
      rw [getElem!_pos (enc d[t / k]!) _ (by rw [hk]; exact hr)]
      simp [hk, hr]
    have e3 := flat_get hk' e1 e2
    rw [show t / k * k + t % k = t by rw [Nat.mul_comm]; exact Nat.div_add_mod t k] at e3
    rw [e3]
    have : (Go.Sort.flatK enc k d)[t]? = some (Go.Sort.flatK enc k d)[t]! := by
      rw [getElem!_pos (Go.Sort.flatK enc k d) t (by simpa using h)]
      simp [h]
    rw [Array.getElem?_toList, this, Go.Sort.get_flatK enc k d t h]
  · rw [List.getElem?_eq_none (by simpa using h), List.getElem?_eq_none (by rw [flatten_len k _ hk']; simpa using h)]
/-- Integers in order. -/
def sortZ (l : List Int) : List Int := l.mergeSort fun x y => decide (x ≤ y)
theorem nums_raw (k : IntKind) (l : List Int) : nums k l = rawR (l.map fun z => [Value.int k z]) := by simp [nums, rawR]
theorem flat_ones (k : IntKind) (l : List Int) : (l.map fun z => [Value.int k z]).flatten = l.map (Value.int k) := by
  induction l with
  | nil => rfl
  | cons x l ih => rw [List.map_cons, List.flatten_cons, ih]; rfl
theorem sortI_m (zs : List Int) (hl : zs.length ≤ 1000000) : Meets Tryz.prog 38 [.ow 0] [.row 3 1 (nums .i64 zs)] (.tu []) [some (.row 3 1 (nums .i64 (sortZ zs)))] := by
  rw [nums_raw, nums_raw]
  refine meets_sort (rest := []) ((List.mergeSort_perm _ _).map _) (fun h w Z M us hr => ?_) (fun w Z M us g cap cur hr hg hnc hcm hcs ht => ?_)
  · rw [AV.reps] at hr
    subst hr
    refine Calls.mono (Tryz.slices_Sort_int_none none 0 w) ?_
    rintro e w' ⟨rfl, rfl⟩
    exact ⟨rfl, Below.refl _ _⟩
  · rw [AV.reps] at hr
    subst hr
    rw [flat_ones] at ht
    rw [List.length_map] at *
    rw [Nat.mul_one] at *
    have hH : Go.Sort.Holds (Value.int .i64) w g 0 zs.toArray := holds_of _ hg (by simpa using ht)
    refine Calls.mono (Tryz.slices_Sort_int g 0 cap zs w hH (heap_lt hg) (by omega)) ?_
    rintro e w' ⟨rfl, n, os, rfl⟩
    have hml : (sortZ zs).length = zs.length := (List.mergeSort_perm _ _).length_eq
    obtain ⟨cur', q1, q2, q3, q4⟩ := cells_sorted (Value.int .i64) (n := n) (D := (sortZ zs).toArray) (os := os) hg (by simp [hml]; omega)
    refine ⟨rfl, cur', q1, q2, ?_, q4⟩
    rw [flat_ones]
    simpa [hml] using q3

abbrev Pk := { x : Pc // x.c.ok }
instance : Inhabited Pk := ⟨⟨⟨0, 0, 0, ⟨true, 0, 0, 0, 0⟩⟩, .inl ⟨rfl, rfl, rfl, rfl, rfl⟩⟩⟩
theorem world_grow {W w' : World} (h : Upto (fun _ => False) W w') (hd : W.drawn ≤ w'.drawn) : ∃ q os', w' = Go.Sort.grow (W.drewN q) os' := by
  refine ⟨w'.drawn - W.drawn, w'.heap.extract W.heap.size w'.heap.size, ?_⟩
  obtain ⟨h1, h2, h3, h4, h5⟩ := h
  obtain ⟨heap, tape, drawn, os, output⟩ := w'
  obtain ⟨heap0, tape0, drawn0, os0, output0⟩ := W
  simp only at h1 h2 h3 h4 h5 hd
  subst h1 h2 h3
  unfold Go.Sort.grow World.drewN
  simp only [World.mk.injEq, true_and, and_true]
  refine ⟨?_, by omega⟩
  apply Array.ext_getElem?
  intro k
  rcases Nat.lt_or_ge k heap0.size with h | h
  · rw [Array.getElem?_append_left h]; exact h5 k h fun h => h
  · rw [Array.getElem?_append_right h, Array.getElem?_extract]
    simp only [Nat.min_self]
    split
    · congr 1; omega
    · rw [Array.getElem?_eq_none (by omega)]
theorem pcVs_len (x : Pc) : (pcVs x).length = 24 := by
  obtain ⟨ix, ct, ky, o, p, q, r, s⟩ := x
  rfl
theorem pcVs_one (x : Pc) : ∀ v ∈ pcVs x, v.oneCell' = true := by
  obtain ⟨ix, ct, ky, o, p, q, r, s⟩ := x
  have : (pcVs ⟨ix, ct, ky, o, p, q, r, s⟩).all (·.oneCell') = true := rfl
  exact List.all_eq_true.1 this
theorem pcA_rep {Z : Nat → Value} {B : Nat → Prop} {w : World} (x : Pc) : AV.rep Z B w (pcA x) (pcv x) := by
  unfold pcA pcv
  rw [AV.rep]
  exact ⟨_, rfl, by simpa using vsA_reps (pcVs x)⟩
theorem cmpLays (blk n : Nat) (w : World) : Go.Proofs.CmpLays Tryz.prog 36 #[] (fun x : Pk => pcVs x.1) 24 (fun x y => cmpP x.1 y.1) blk 0 n w := by
  intro m os dk hs x y
  have h := compareP_m x.1 y.1 x.2 y.2 (sortWorldK (fun x : Pk => pcVs x.1) 24 w blk 0 m dk os) (fun _ => undef) (fun _ => False) 0 [pcv x.1, pcv y.1] (fun _ h => h.elim) (Nat.le_refl _) (by
    rw [AV.reps]; refine ⟨_, _, rfl, pcA_rep _, ?_⟩
    rw [AV.reps]; exact ⟨_, _, rfl, pcA_rep _, by rw [AV.reps]⟩) (fun i b h => (nomatch h)) (fun i j b c h => (nomatch h))
  refine Calls.mono (Go.Dr.calls_d h fun e w' ⟨v, hv, _⟩ => ⟨v, hv⟩) ?_
  rintro e w' ⟨⟨v, rfl, Z', hA⟩, hd⟩
  have hv : v = .int .i64 (cmpP x.1 y.1) := by
    have := hA.out
    rw [show (callSp 0 [] (.r (.v (.int .i64 (cmpP x.1 y.1)))) []).out = .r (.v (.int .i64 (cmpP x.1 y.1))) from rfl, AV.rep, RV.rep] at this
    exact this
  subst hv
  exact ⟨rfl, world_grow (hA.upto.mono fun k _ ⟨i, o, h, _⟩ => (nomatch h)) hd⟩
end Go.Proofs.YtibedaeefnjjlaaGreat

/- Chapter 21: slices.SortFunc at pieces. Conditions: lengths, good cones, different indexes. --ext8 -/
namespace Go.Proofs.YtibedaeefnjjlaaGreat
open Go.RowKit Go.Ab
set_option maxRecDepth 100000
set_option linter.unusedVariables false
set_option linter.unusedSimpArgs false

def cpF : AV := .r (.v (.func (.func 36) #[] #[]))
attribute [local go_sem] Oper.semAt_some
theorem insNil (n : Nat) (cb : Value) (w : World) : CallsIn Fence.wide n Tryz.prog 131 #[.slice none 0 0, .int .i64 0, .int .i64 0, cb] w fun e w' => e = .returned (.tuple #[]) ∧ w' = w := by
  refine callsIn_of_wp Tryz.func131 rfl trivial ?_ rfl
  simp only [Tryz.ntmps131, List.size_toArray, List.length_cons, List.length_nil, Nat.reduceAdd, Nat.reduceSub, Array.replicate_succ, Array.replicate_zero, List.push_toArray, List.append_toArray, List.nil_append, List.cons_append]
  gi_wp2
  refine wpIn_loop_once ?_
  gi_wp2
  go_end0
  exact ⟨rfl, rfl⟩
theorem pdqNil (n : Nat) (cb : Value) (w : World) : CallsIn Fence.wide n Tryz.prog 97 #[.slice none 0 0, .int .i64 0, .int .i64 0, .int .i64 0, cb] w fun e w' => e = .returned (.tuple #[]) ∧ w' = w := by
  refine callsIn_of_wp Tryz.func97 rfl trivial ?_ rfl
  simp only [Tryz.ntmps97, List.size_toArray, List.length_cons, List.length_nil, Nat.reduceAdd, Nat.reduceSub, Array.replicate_succ, Array.replicate_zero, List.push_toArray, List.append_toArray, List.nil_append, List.cons_append]
  gi_wp2
  refine wpIn_loop_once ?_
  gi_wp2
  refine ⟨trivial, (fun h => nomatch h), (insNil _ cb w).mono ?_⟩
  rintro e w' ⟨rfl, rfl⟩
  gi_wp2
  exact bodyPost_ret (results_none rfl _ _ _) rfl ⟨rfl, rfl⟩
theorem sortNil (n : Nat) (cb : Value) (w : World) : CallsIn Fence.wide n Tryz.prog 66 #[.slice none 0 0, cb] w fun e w' => e = .returned (.tuple #[]) ∧ w' = w := by
  have hB : Calls Tryz.prog 74 #[.int .u64 0] w fun e w' => e = .returned (.int .i64 0) ∧ w' = w := (Tryz.bits_Len 0 w (by omega) (by omega)).mono fun e w' h => ⟨h.1, h.2⟩
  refine callsIn_of_wp Tryz.func66 rfl trivial ?_ rfl
  simp only [Tryz.ntmps66, List.size_toArray, List.length_cons, List.length_nil, Nat.reduceAdd, Nat.reduceSub, Array.replicate_succ, Array.replicate_zero, List.push_toArray, List.append_toArray, List.nil_append, List.cons_append]
  gi_wp2
  refine ⟨trivial, (fun h => nomatch h), (callsIn_wide.2 hB).mono ?_⟩
  rintro e w' ⟨rfl, rfl⟩
  gi_wp2
  refine ⟨trivial, (fun h => nomatch h), (pdqNil _ cb _).mono ?_⟩
  rintro e w' ⟨rfl, rfl⟩
  gi_wp2
  go_end0
  exact ⟨rfl, rfl⟩
theorem sortPc_m (l : List Pc) (hl : l.length ≤ 1000000) (h : PcOk l) : Meets Tryz.prog 66 [.ow 0, cpF] [.row 42 24 (pcs l)] (.tu []) [some (.row 42 24 (pcs (sortP l)))] := by
  have e0 : ∀ m : List Pc, pcs m = rawR (m.map pcVs) := fun m => by simp [pcs, rawR]
  rw [e0, e0]
  refine meets_sort (rest := [cpF]) ((sortP_perm l).map _) (fun h w Z M us hr => ?_) (fun w Z M us g cap cur hr hg hnc hcm hcs ht => ?_)
  · rw [AV.reps] at hr
    obtain ⟨u, us', rfl, h1, h2⟩ := hr
    rw [AV.reps] at h2
    subst h2
    refine Calls.mono (callsIn_wide.1 (sortNil 9 u w)) ?_
    rintro e w' ⟨rfl, rfl⟩
    exact ⟨rfl, Below.refl _ _⟩
  · rw [AV.reps] at hr
    obtain ⟨u, us', rfl, h1, h2⟩ := hr
    rw [AV.reps] at h2
    subst h2
    rw [cpF, AV.rep, RV.rep] at h1
    subst h1
    rw [List.length_map] at *
    let d : Array Pk := (l.attach.map fun x => (⟨x.1, h.c x.1 x.2⟩ : Pk)).toArray
    have hd : d.toList.map (·.1) = l := by simp [d, List.map_map, Function.comp_def]
    have hds : d.size = l.length := by simp [d]
    have hflat : ∀ d : Array Pk, (Go.Sort.flatK (fun x : Pk => pcVs x.1) 24 d).toList = ((d.toList.map (·.1)).map pcVs).flatten := fun d => by
      rw [flatK_toList (fun x : Pk => pcVs x.1) (fun x => pcVs_len x.1), List.map_map]; rfl
    have hH : Go.Sort.HoldsK (fun x : Pk => pcVs x.1) 24 w g 0 d := by
      refine holds_of id hg ?_
      rw [hflat, hd, Go.Sort.size_flatK, hds, ht, List.map_id]
    refine Calls.mono (hds ▸ Tryz.slices_SortFunc_pc (fun x : Pk => pcVs x.1) (fun x => pcVs_len x.1) (fun x => pcVs_one x.1) (fun x y => cmpP x.1 y.1) swoP 36 #[] g 0 cap d w (enters_of Tryz.func36 (by kernel_rfl) rfl) (cmpLays _ _ _) hH (heap_lt hg) (by omega)) ?_
    rintro e w' ⟨rfl, d', n, os, hp, hs, rfl⟩
    have hs' : d'.size = l.length := hp.1.trans hds
    have hlist : d'.toList.map (·.1) = sortP l := by
      refine sortP_eq h.c h.nd ?_ ?_
      · have h1 := hp.2.2
        rw [← hs', Array.extract_size, hs', ← hds, Array.extract_size] at h1
        rw [← hd]
        exact h1.map _
      · rw [List.pairwise_map, List.pairwise_iff_getElem]
        intro i j hi hj hij
        have hi' : i < d'.size := by simpa using hi
        have hj' : j < d'.size := by simpa using hj
        have h1 := hs i j (Nat.zero_le _) hij (by omega)
        rw [getElem!_pos d' i hi', getElem!_pos d' j hj'] at h1
        simp only [ltOf, decide_eq_false_iff_not, Int.not_lt] at h1
        exact (cmpP_ok.le (d'[i]).2 (d'[j]).2).2 h1
    obtain ⟨cur', q1, q2, q3, q4⟩ := cells_sorted id (n := n) (D := Go.Sort.flatK (fun x : Pk => pcVs x.1) 24 d') (os := os) hg (by rw [Go.Sort.size_flatK, hs', hcs]; exact Nat.mul_le_mul_right _ hnc)
    refine ⟨rfl, cur', q1, q2, ?_, q4⟩
    rw [hflat, hlist, Go.Sort.size_flatK, hs', List.map_id] at q3
    exact q3
end Go.Proofs.YtibedaeefnjjlaaGreat

/- Chapter 21: slices.SortedFunc over slices.Values at pieces. Conditions: lengths, good cones, different indexes. --ext8 -/
namespace Go.Proofs.YtibedaeefnjjlaaGreat
open Go.RowKit Go.Ab
set_option maxRecDepth 100000
set_option linter.unusedVariables false
set_option linter.unusedSimpArgs false

set_option maxHeartbeats 1000000 in
theorem sortedFunc_m (l : List Pc) (hl : l.length ≤ 1000000) (h : PcOk l) : Meets Tryz.prog 34 [itA l, cpF] [] (.fr 42 24 (pcs (sortP l))) [] := by
  have c1 := collect_m l hl
  have c2 := sortPc_m l hl h
  refine fn_of Tryz.func34 rfl (Nat.le_of_ble_eq_true rfl) rfl rfl ?_
  unfold itA cpF at *
  (repeat' (first | refine r_95e112 ?_ | (refine is_f 65 ?_; refine r_e7cc0f (c1) ?_) | (refine is_f 66 ?_; refine r_92fba5 (c2) ?_) | (refine r_48b933 (fun hb => ?_) (fun hb => ?_) <;> (try (exfalso; omega))) | (refine awp_cond rfl (fun hb => ?_) (fun hb => ?_) <;> (try simp only [Bool.not_eq_true', Bool.not_eq_false', decide_eq_true_eq, decide_eq_false_iff_not] at hb) <;> (try (exfalso; omega)))))
  exact ret1 [] (.fr 0 _ _ _ rfl) rfl rfl rfl
end Go.Proofs.YtibedaeefnjjlaaGreat
