/- Slices of entries that come in as arguments. No conditions. -/
import Derived.Test.YtabgmodllifgjaaLe1
import Derived.Test.YtabgmodllifgjaaCm
import Derived.Deep.Slices
import Derived.ChangeSame
namespace Go.Proofs.Ytabgmodllifgjaa
open Go.RowKit Go.Ab Go.Deep Go.ChangeShapes
set_option maxRecDepth 100000
set_option linter.unusedVariables false
set_option linter.unusedSimpArgs false

def entV (s : Ent) : List Value := [.int .i64 s.off, .int .i64 s.len, .int .i64 s.cnt, .int .i64 s.fst, .int .i64 s.lst]
def flatE (l : List Ent) : List Value := l.flatMap entV
/-- What is known of a slice of entries that came in. -/
def IsEnt (w : World) (a : Option Addr) (len cap : Nat) (zs : List Ent) : Prop :=
  (a = none ∧ len = 0 ∧ cap = 0 ∧ zs = []) ∨
  ∃ x, a = some x ∧ len ≤ cap ∧ cap ≤ maxLen ∧ zs.length = cap ∧ (∀ i, i < cap → ∀ f v, (entV (zs.getD i e0))[f]? = some v → w.cell? (x.add (i * 5 + f)) = some v) ∧ EntsI zs
theorem cellsE : Try.prog.cellsOf 98 = 5 := by kernel_rfl
theorem cellsI : Try.prog.cellsOf 3 = 1 := by kernel_rfl
theorem cellsJ : Try.prog.cellsOf 2 = 1 := by kernel_rfl
theorem open_ents {H : Type} {enc : TypeId × Value → H} {w : World} {fuel : Nat} {held : Bool} {a : Option Addr} {len cap : Nat} {x : DataW H × List MemPlace} (h : DataW.trod enc Try.prog w 0 (fun _ => true) held fuel 94 [.slice a len cap] = some x) :
    ∃ zs, IsEnt w a len cap zs ∧ (cap = 0 ∨ ∃ el sp, x.1 = .slice el sp ∧ el.length = len ∧ sp.length = cap - len) := by
  rcases open_slice Try.underlying94 h with ⟨hcs, _⟩ | ⟨ad, n, c, m, fu, D, Pl, hcs, _, hl, hm, hmm, hx, hc⟩
  · simp at hcs
    obtain ⟨rfl, rfl, rfl⟩ := hcs
    exact ⟨[], .inl ⟨rfl, rfl, rfl, rfl⟩, .inl rfl⟩
  · simp at hcs
    obtain ⟨rfl, rfl, rfl⟩ := hcs
    have hmc : m = cap := by simpa using hmm
    subst hmc
    have each : ∀ i, i < m → ∃ z : Ent, EntI z ∧ ∀ f v, (entV z)[f]? = some v → w.cell? (ad.add (i * 5 + f)) = some v := fun i hi => by
      obtain ⟨cs', g1, g2⟩ := hc i hi
      rw [cellsE] at g1
      obtain ⟨_, hlen, hcell⟩ := World.cells?_some g1
      obtain ⟨xs, k, hk, hxy, _, hxl, hf⟩ := DataW.trod_struct Try.underlying98 g2
      match xs, hxl, cs', hlen with
      | [y0, y1, y2, y3, y4], _, [v0, v1, v2, v3, v4], _ =>
        have f0 := hf 0 _ rfl
        have f1 := hf 1 _ rfl
        have f2 := hf 2 _ rfl
        have f3 := hf 3 _ rfl
        have f4 := hf 4 _ rfl
        simp [cellsI, cellsJ] at f0 f1 f2 f3 f4
        obtain ⟨a0, e0', _, w0⟩ := DataW.trod_int Try.underlying3 f0
        obtain ⟨a1, e1, _, w1⟩ := DataW.trod_int Try.underlying3 f1
        obtain ⟨a2, e2, _, w2⟩ := DataW.trod_int Try.underlying3 f2
        obtain ⟨a3, e3, _, w3⟩ := DataW.trod_int Try.underlying2 f3
        obtain ⟨a4, e4, _, w4⟩ := DataW.trod_int Try.underlying2 f4
        simp at e0' e1 e2 e3 e4
        subst e0' e1 e2 e3 e4
        refine ⟨⟨a0, a1, a2, a3, a4⟩, ⟨wf_i64 w0, wf_i64 w1, wf_i64 w2, wf_i64 w3, wf_i64 w4⟩, fun f v hv => ?_⟩
        have hf5 : f < 5 := by have := (List.getElem?_eq_some_iff.1 hv).1; simpa [entV] using this
        have := hcell f (by simpa using hf5)
        rw [Go.Deep.add_add] at this
        rw [this]
        exact hv
    have each' : ∀ i, i < m → ∃ z : Int × Int × Int × Int × Int, EntI ⟨z.1, z.2.1, z.2.2.1, z.2.2.2.1, z.2.2.2.2⟩ ∧ ∀ f v, (entV ⟨z.1, z.2.1, z.2.2.1, z.2.2.2.1, z.2.2.2.2⟩)[f]? = some v → w.cell? (ad.add (i * 5 + f)) = some v := fun i hi => by
      obtain ⟨z, h1, h2⟩ := each i hi
      exact ⟨(z.off, z.len, z.cnt, z.fst, z.lst), h1, h2⟩
    obtain ⟨q, hq⟩ := choose_lt each'
    have hg : ∀ i, i < m → ((List.range m).map fun i => (⟨(q i).1, (q i).2.1, (q i).2.2.1, (q i).2.2.2.1, (q i).2.2.2.2⟩ : Ent)).getD i e0 = ⟨(q i).1, (q i).2.1, (q i).2.2.1, (q i).2.2.2.1, (q i).2.2.2.2⟩ := fun i hi => by simp [hi]
    refine ⟨(List.range m).map fun i => (⟨(q i).1, (q i).2.1, (q i).2.2.1, (q i).2.2.2.1, (q i).2.2.2.2⟩ : Ent), .inr ⟨ad, rfl, hl, hm, by simp, fun i hi => ?_, fun s hs => ?_⟩, .inr ⟨_, _, congrArg Prod.fst hx, by simp, by simp⟩⟩
    · rw [hg i hi]; exact (hq i hi).2
    · simp only [List.mem_map, List.mem_range] at hs
      obtain ⟨i, hi, rfl⟩ := hs
      exact (hq i hi).1
theorem flatE_len (l : List Ent) : (flatE l).length = l.length * 5 := by
  induction l with
  | nil => rfl
  | cons a l ih => rw [flatE, List.flatMap_cons, List.length_append, ← flatE, ih, List.length_cons]; simp [entV]; omega
theorem flatE_get (l : List Ent) (j : Nat) (u : Value) (h : (flatE l)[j]? = some u) : ∃ i f, i < l.length ∧ j = i * 5 + f ∧ (entV (l.getD i e0))[f]? = some u := by
  induction l generalizing j with
  | nil => simp [flatE] at h
  | cons s l ih =>
    rw [flatE, List.flatMap_cons, ← flatE] at h
    rcases Nat.lt_or_ge j 5 with hj | hj
    · rw [List.getElem?_append_left (by simpa [entV] using hj)] at h
      exact ⟨0, j, by simp, by omega, by simpa using h⟩
    · rw [List.getElem?_append_right (by simpa [entV] using hj)] at h
      obtain ⟨i, f, hi, hd, hf⟩ := ih (j - 5) (by simpa [entV] using h)
      exact ⟨i + 1, f, by simpa using hi, by omega, by simpa using hf⟩
theorem ents_flat (l : List Ent) : (ents l).flatten = (flatE l).map RV.v := by
  induction l with
  | nil => rfl
  | cons a l ih =>
    rw [show a :: l = [a] ++ l from rfl, ents_append, List.flatten_append, ih]
    simp [flatE, entV, ents, Ent.row]
theorem flatE_one (l : List Ent) : ∀ u ∈ flatE l, u.oneCell' = true := by
  intro u hu
  simp only [flatE, entV, List.mem_flatMap, List.mem_cons, List.not_mem_nil, or_false] at hu
  obtain ⟨s, _, rfl | rfl | rfl | rfl | rfl⟩ := hu <;> rfl
theorem ents_five (l : List Ent) : ∀ e ∈ ents l, e.length = 5 := by
  intro e he
  unfold ents at he
  rw [List.mem_map] at he
  obtain ⟨s, _, rfl⟩ := he
  rfl
theorem IsEnt.take {w : World} {a : Option Addr} {len cap : Nat} {zs : List Ent} (h : IsEnt w a len cap zs) : len ≤ cap ∧ cap ≤ maxLen ∧ (zs.take len).length = len ∧ EntsI (zs.take len) := by
  rcases h with ⟨rfl, rfl, rfl, rfl⟩ | ⟨x, rfl, h1, h2, h3, h4, h5⟩
  · exact ⟨Nat.le_refl _, Nat.zero_le _, rfl, fun s hs => by simp at hs⟩
  · exact ⟨h1, h2, by rw [List.length_take]; omega, fun s hs => h5 s (List.mem_of_mem_take hs)⟩
theorem cells_rowsE {B : Nat → Prop} {w : World} {es : List (List RV)} {ad : Addr} {vs : List Value} (he : es.flatten = vs.map RV.v) (h1 : ∀ u ∈ vs, u.oneCell' = true) (h : ∀ j u, vs[j]? = some u → w.cell? (ad.add j) = some u) : RV.rows B w es ad 0 := by
  rw [RV.rows_flat, RV.row_iff]
  intro k c hk
  rw [he, List.getElem?_map, Option.map_eq_some_iff] at hk
  obtain ⟨u, hu, rfl⟩ := hk
  exact ⟨u, by rw [Nat.zero_add]; exact h k u hu, h1 u (List.mem_of_getElem? hu), by rw [RV.rep]⟩
theorem cm_rde {B : Nat → Prop} {w : World} {a : Option Addr} {len cap : Nat} {zs : List Ent} (h : IsEnt w a len cap zs) (hB : ∀ q, q < w.heap.size → ¬ B q) : RV.rep B w (.sl 5 (ents (zs.take len))) (.slice a len cap) := by
  obtain ⟨g1, g2, g3, g4⟩ := h.take
  rw [RV.rep, ents_len, g3]
  refine ⟨a, cap, rfl, g1, g2, ents_five _, fun hne => ?_⟩
  have hpos : 0 < len := by
    rcases Nat.eq_zero_or_pos len with h0 | h0
    · exact absurd (List.eq_nil_of_length_eq_zero (by rw [ents_len]; omega)) hne
    · exact h0
  rcases h with ⟨rfl, rfl, rfl, rfl⟩ | ⟨x, rfl, h1, h2, h3, h4, h5⟩
  · omega
  · have hlt : x.block < w.heap.size := by
      have := block_lt_of_cell (h4 0 (by omega) 0 _ rfl)
      rwa [add_block] at this
    refine ⟨x, rfl, hlt, hB _ hlt, cells_rowsE (ents_flat _) (flatE_one _) fun j u hj => ?_⟩
    obtain ⟨i, f, hi, rfl, hf⟩ := flatE_get _ j u hj
    have e : (zs.take len).getD i e0 = zs.getD i e0 := by simp [List.getElem?_take, show i < len by omega]
    rw [e] at hf
    exact h4 i (by omega) f u hf
end Go.Proofs.Ytabgmodllifgjaa
