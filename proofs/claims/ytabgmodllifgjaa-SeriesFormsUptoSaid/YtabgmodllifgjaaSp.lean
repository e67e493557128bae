/- Slices of samples that come in as arguments. No conditions. -/
import Derived.Test.YtabgmodllifgjaaCu6
import Derived.Test.YtabgmodllifgjaaCm
import Derived.Deep.SlicePairs
namespace Go.Proofs.Ytabgmodllifgjaa
open Go.RowKit Go.Ab Go.Deep Go.ChangeShapes
set_option maxRecDepth 100000
set_option linter.unusedVariables false
set_option linter.unusedSimpArgs false

/-- What is known of a slice of samples that came in: it is nil; or it leads to a row of 'cap' samples. -/
def IsSmp (w : World) (a : Option Addr) (len cap : Nat) (zs : List (Int × Int)) : Prop :=
  (a = none ∧ len = 0 ∧ cap = 0 ∧ zs = []) ∨
  ∃ x, a = some x ∧ len ≤ cap ∧ cap ≤ maxLen ∧ zs.length = cap ∧ (∀ i, i < cap → w.cell? (x.add (i * 2)) = some (.int .i64 (zs.getD i (0, 0)).1) ∧ w.cell? (x.add (i * 2 + 1)) = some (.int .i64 (zs.getD i (0, 0)).2)) ∧ Smp zs
theorem open_smps {H : Type} {enc : TypeId × Value → H} {w : World} {fuel : Nat} {held : Bool} {a : Option Addr} {len cap : Nat} {x : DataW H × List MemPlace} (h : DataW.trod enc Try.prog w 0 (fun _ => true) held fuel 43 [.slice a len cap] = some x) :
    ∃ zs, IsSmp w a len cap zs ∧ (cap = 0 ∨ ∃ el sp, x.1 = .slice el sp ∧ el.length = len ∧ sp.length = cap - len) := by
  rcases open_slice_pairs Try.underlying43 Try.underlying54 (by kernel_rfl) rfl rfl (by kernel_rfl) (by kernel_rfl) h with ⟨hcs, _⟩ | ⟨ad, n, c, m, fu, V0, V1, D0, D1, P0, P1, hcs, _, hl, hm, hmm, hx, hc⟩
  · simp at hcs
    obtain ⟨rfl, rfl, rfl⟩ := hcs
    exact ⟨[], .inl ⟨rfl, rfl, rfl, rfl⟩, .inl rfl⟩
  · simp at hcs
    obtain ⟨rfl, rfl, rfl⟩ := hcs
    have hmc : m = cap := by simpa using hmm
    subst hmc
    have each : ∀ i, i < m → ∃ z : Int × Int, V0 i = .int .i64 z.1 ∧ V1 i = .int .i64 z.2 ∧ I64 z.1 ∧ I64 z.2 := fun i hi => by
      obtain ⟨_, _, h0, h1⟩ := hc i hi
      obtain ⟨a, ea, _, wa⟩ := DataW.trod_int Try.underlying2 h0
      obtain ⟨b, eb, _, wb⟩ := DataW.trod_int Try.underlying2 h1
      simp at ea eb
      exact ⟨(a, b), ea, eb, wf_i64 wa, wf_i64 wb⟩
    obtain ⟨q, hq⟩ := choose_lt each
    have hg : ∀ i, i < m → ((List.range m).map q).getD i (0, 0) = q i := fun i hi => by simp [hi]
    refine ⟨(List.range m).map q, .inr ⟨ad, rfl, hl, hm, by simp, fun i hi => ?_, fun i hi => ?_⟩, .inr ⟨_, _, congrArg Prod.fst hx, by simp, by simp⟩⟩
    · rw [hg i hi, ← (hq i hi).1, ← (hq i hi).2.1]
      exact ⟨(hc i hi).1, (hc i hi).2.1⟩
    · have hi' : i < m := by simpa using hi
      rw [hg i hi']
      exact (hq i hi').2.2
theorem flatv_get (l : List (Int × Int)) (j : Nat) (u : Value) (h : (flatv l)[j]? = some u) : ∃ i, i < l.length ∧ ((j = i * 2 ∧ u = .int .i64 (l.getD i (0, 0)).1) ∨ (j = i * 2 + 1 ∧ u = .int .i64 (l.getD i (0, 0)).2)) := by
  induction l generalizing j with
  | nil => simp [flatv] at h
  | cons s l ih =>
    rw [flatv, List.flatMap_cons, ← flatv] at h
    match j, h with
    | 0, h => exact ⟨0, by simp, .inl ⟨rfl, by simpa using h.symm⟩⟩
    | 1, h => exact ⟨0, by simp, .inr ⟨rfl, by simpa using h.symm⟩⟩
    | j + 2, h =>
      obtain ⟨i, hi, hd⟩ := ih j (by simpa using h)
      refine ⟨i + 1, by simpa using hi, ?_⟩
      rcases hd with ⟨rfl, rfl⟩ | ⟨rfl, rfl⟩
      · exact .inl ⟨by omega, by simp⟩
      · exact .inr ⟨by omega, by simp⟩
theorem IsSmp.take {w : World} {a : Option Addr} {len cap : Nat} {zs : List (Int × Int)} (h : IsSmp w a len cap zs) : len ≤ cap ∧ cap ≤ maxLen ∧ (zs.take len).length = len ∧ Smp (zs.take len) := by
  rcases h with ⟨rfl, rfl, rfl, rfl⟩ | ⟨x, rfl, h1, h2, h3, h4, h5⟩
  · exact ⟨Nat.le_refl _, Nat.zero_le _, rfl, fun i hi => by simp at hi⟩
  · have hl : (zs.take len).length = len := by rw [List.length_take]; omega
    refine ⟨h1, h2, hl, fun i hi => ?_⟩
    have e : (zs.take len).getD i (0, 0) = zs.getD i (0, 0) := by simp [List.getElem?_take, show i < len by omega]
    rw [e]
    exact h5 i (by omega)
theorem cm_rds {B : Nat → Prop} {w : World} {a : Option Addr} {len cap : Nat} {zs : List (Int × Int)} (h : IsSmp w a len cap zs) (hB : ∀ q, q < w.heap.size → ¬ B q) : RV.rep B w (.sl 2 (smps (zs.take len))) (.slice a len cap) := by
  obtain ⟨g1, g2, g3, g4⟩ := h.take
  rw [RV.rep, smps_len, g3]
  refine ⟨a, cap, rfl, g1, g2, smps_two _, fun hne => ?_⟩
  have hpos : 0 < len := by
    rcases Nat.eq_zero_or_pos len with h0 | h0
    · exact absurd (List.eq_nil_of_length_eq_zero (by rw [smps_len]; omega)) hne
    · exact h0
  rcases h with ⟨rfl, rfl, rfl, rfl⟩ | ⟨x, rfl, h1, h2, h3, h4, h5⟩
  · omega
  · have hlt : x.block < w.heap.size := by
      have := block_lt_of_cell (h4 0 (by omega)).1
      rwa [add_block] at this
    refine ⟨x, rfl, hlt, hB _ hlt, cells_rows (smps_flat _) (flatv_one _) fun j u hj => ?_⟩
    obtain ⟨i, hi, hd⟩ := flatv_get _ j u hj
    have e : (zs.take len).getD i (0, 0) = zs.getD i (0, 0) := by simp [List.getElem?_take, show i < len by omega]
    rw [e] at hd
    rcases hd with ⟨rfl, rfl⟩ | ⟨rfl, rfl⟩
    · exact (h4 i (by omega)).1
    · exact (h4 i (by omega)).2
end Go.Proofs.Ytabgmodllifgjaa
