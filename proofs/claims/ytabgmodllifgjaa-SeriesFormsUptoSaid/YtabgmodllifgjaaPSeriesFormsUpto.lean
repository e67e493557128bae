/- The statement of the law SeriesForms: for every input it returns true and leaves the arguments as they were. No condition beside the row's own. -/
import Derived.Test.YtabgmodllifgjaaRows
import Derived.Test.YtabgmodllifgjaaSr4
import Derived.WalkKit
import Derived.ProofKit
import Derived.OpenShut
import Derived.ShutString
import Derived.ChangeOld
import Derived.SizedLaws
import Derived.JoinedCond
import Derived.Test.YtabgmodllifgjaaBulk
import Derived.Below
namespace Go.Proofs.Ytabgmodllifgjaa.seriesForms
open Go.ChangeShapes Go.WideShapes Go.ChangeAt Go.RowKit
open Go.ChangeMaps (open_string shut_string)
set_option linter.unusedVariables false

theorem own : ownKnob Try.prog.godebug = none := by kernel_rfl
theorem laidOut : laidOutB Try.prog = true := by kernel_rfl

set_option maxRecDepth 100000 in
theorem lifted (os : Os) (started : os.Started) (H : Type) (enc : TypeId × Value → H) (F : Stop.Interp) :
    ReturnsInHanded {} Try.checked os 11 .any ((Rows.OpenSpec.upto Rows.seriesFormsSpec).pre6 enc Try.prog Try.f11 Rows.seriesFormsUptoRow.domain false) (((Rows.OpenSpec.upto Rows.seriesFormsSpec).at F).post enc Try.prog Try.f11 false true false false) := by
  refine returnsInHanded_of_cond (C := Try.checked) (s := Rows.OpenSpec.upto Rows.seriesFormsSpec) (k := Rows.uptoSmall) rfl own started (by kernel_rfl) Try.func11
    (OpenSpec.witness (enc := enc) (C := Try.checked) (s := Rows.OpenSpec.upto Rows.seriesFormsSpec) (k := Rows.uptoSmall) rfl false ⟨#[], #[.slice none 0 0, .slice none 0 0, .slice none 0 0, .slice none 0 0, .int .i64 0, .int .i64 0, .int .i64 0, .slice none 0 0], []⟩ 8 (by kernel_rfl) (by kernel_rfl) (by kernel_rfl)
      (x := ([.nil, .nil, .nil, .nil, .lit (.int .i64 0), .lit (.int .i64 0), .lit (.int .i64 0), .nil], [], [])) (by kernel_rfl) rfl (by kernel_rfl)) ?_
  intro W base args ds gs before hval0 hW hcnd hk _
  have hval : ∀ (j : Nat) t v, Try.f11.params[j]? = some t → args[j]? = some v → Value.okWide Try.prog W .any base t v := hval0
  have hW' := hW
  obtain ⟨p, q, hA0, hV, rfl, hfz, hnd⟩ := hW
  have hA : DataW.TrodAll enc Try.prog W 0 (fun _ => true) true Try.f11.params.toList args.toList ds p := hA0
  rw [Try.params11] at hA hval
  obtain ⟨v0, vs0, d0, ds0, p0, q0, hargs, rfl, rfl, h0, r0_⟩ := trodAll_cons hA
  obtain ⟨v1, vs1, d1, ds1, p1, q1, rfl, rfl, rfl, h1, r1_⟩ := trodAll_cons r0_
  obtain ⟨v2, vs2, d2, ds2, p2, q2, rfl, rfl, rfl, h2, r2_⟩ := trodAll_cons r1_
  obtain ⟨v3, vs3, d3, ds3, p3, q3, rfl, rfl, rfl, h3, r3_⟩ := trodAll_cons r2_
  obtain ⟨v4, vs4, d4, ds4, p4, q4, rfl, rfl, rfl, h4, r4_⟩ := trodAll_cons r3_
  obtain ⟨v5, vs5, d5, ds5, p5, q5, rfl, rfl, rfl, h5, r5_⟩ := trodAll_cons r4_
  obtain ⟨v6, vs6, d6, ds6, p6, q6, rfl, rfl, rfl, h6, r6_⟩ := trodAll_cons r5_
  obtain ⟨v7, vs7, d7, ds7, p7, q7, rfl, rfl, rfl, h7, r7_⟩ := trodAll_cons r6_
  obtain ⟨rfl, rfl, rfl⟩ := trodAll_nil r7_
  obtain rfl : args = #[v0, v1, v2, v3, v4, v5, v6, v7] := by cases args; simp_all
  obtain ⟨rfl, rfl⟩ := trodVars_none hV
  obtain ⟨A0, n0, c0, rfl⟩ := okWide_slice Try.underlying43 (hval 0 43 v0 rfl rfl)
  have k0 := h0
  have lt0 : ∀ x ∈ p0, x.block < W.heap.size := by obtain ⟨m, hm⟩ := k0; exact DataW.trod_lt m _ _ _ hm
  obtain ⟨z0, w0, r0⟩ : ∃ zs, IsSmp W A0 n0 c0 zs ∧ c0 ≤ 1048576 := by
    obtain ⟨fuel, hf⟩ := h0
    obtain ⟨zs, hz, hs⟩ := open_smps hf
    refine ⟨zs, hz, ?_⟩
    have hnc := hz.take.1
    rcases hs with hs | ⟨el, sp, hx, h1, h2⟩
    · omega
    · have hd : d0 = .slice el sp := hx
      have hb := bulks.bound hk
      simp only [List.append_nil, Rows.uptoBulkAll] at hb
      rw [hd] at hb
      have h2 := bulks.slice_le (H := H) el sp
      omega
  obtain ⟨A1, n1, c1, rfl⟩ := okWide_slice Try.underlying43 (hval 1 43 v1 rfl rfl)
  have k1 := h1
  have lt1 : ∀ x ∈ p1, x.block < W.heap.size := by obtain ⟨m, hm⟩ := k1; exact DataW.trod_lt m _ _ _ hm
  obtain ⟨z1, w1, r1⟩ : ∃ zs, IsSmp W A1 n1 c1 zs ∧ c1 ≤ 1048576 := by
    obtain ⟨fuel, hf⟩ := h1
    obtain ⟨zs, hz, hs⟩ := open_smps hf
    refine ⟨zs, hz, ?_⟩
    have hnc := hz.take.1
    rcases hs with hs | ⟨el, sp, hx, h1, h2⟩
    · omega
    · have hd : d1 = .slice el sp := hx
      have hb := bulks.bound hk
      simp only [List.append_nil, Rows.uptoBulkAll] at hb
      rw [hd] at hb
      have h2 := bulks.slice_le (H := H) el sp
      omega
  obtain ⟨A2, n2, c2, rfl⟩ := okWide_slice Try.underlying57 (hval 2 57 v2 rfl rfl)
  have k2 := h2
  have lt2 : ∀ x ∈ p2, x.block < W.heap.size := by obtain ⟨m, hm⟩ := k2; exact DataW.trod_lt m _ _ _ hm
  obtain ⟨z2, w2, r2⟩ : ∃ zs, IsRow .i64 W A2 n2 c2 zs ∧ c2 ≤ 1048576 := by
    obtain ⟨fuel, hf⟩ := h2
    rcases open_ints Try.underlying57 Try.underlying2 (by kernel_rfl) hf with ⟨hcs, _⟩ | ⟨x, l, c, zs, hcs, _, hl, hm, hz, hx, hcell, hwz⟩
    · simp [Value.cells] at hcs
      obtain ⟨rfl, rfl, rfl⟩ := hcs
      exact ⟨[], .inl ⟨rfl, rfl, rfl, rfl⟩, by omega⟩
    · simp [Value.cells] at hcs
      obtain ⟨rfl, rfl, rfl⟩ := hcs
      have hz' : zs.length = c2 := by simpa using hz
      refine ⟨zs, .inr ⟨_, rfl, hl, hm, hz', hcell, hwz⟩, ?_⟩
      have hd : d2 = _ := congrArg Prod.fst hx
      have hb := bulks.bound hk
      simp only [List.append_nil, Rows.uptoBulkAll] at hb
      rw [hd] at hb
      have h2 := bulks.slice_le (H := H) (lits .i64 (zs.take n2)) (lits .i64 (zs.drop n2))
      simp only [lits, List.length_map, List.length_take, List.length_drop] at h2 hb
      omega
  obtain ⟨A3, n3, c3, rfl⟩ := okWide_slice Try.underlying57 (hval 3 57 v3 rfl rfl)
  have k3 := h3
  have lt3 : ∀ x ∈ p3, x.block < W.heap.size := by obtain ⟨m, hm⟩ := k3; exact DataW.trod_lt m _ _ _ hm
  obtain ⟨z3, w3, r3⟩ : ∃ zs, IsRow .i64 W A3 n3 c3 zs ∧ c3 ≤ 1048576 := by
    obtain ⟨fuel, hf⟩ := h3
    rcases open_ints Try.underlying57 Try.underlying2 (by kernel_rfl) hf with ⟨hcs, _⟩ | ⟨x, l, c, zs, hcs, _, hl, hm, hz, hx, hcell, hwz⟩
    · simp [Value.cells] at hcs
      obtain ⟨rfl, rfl, rfl⟩ := hcs
      exact ⟨[], .inl ⟨rfl, rfl, rfl, rfl⟩, by omega⟩
    · simp [Value.cells] at hcs
      obtain ⟨rfl, rfl, rfl⟩ := hcs
      have hz' : zs.length = c3 := by simpa using hz
      refine ⟨zs, .inr ⟨_, rfl, hl, hm, hz', hcell, hwz⟩, ?_⟩
      have hd : d3 = _ := congrArg Prod.fst hx
      have hb := bulks.bound hk
      simp only [List.append_nil, Rows.uptoBulkAll] at hb
      rw [hd] at hb
      have h2 := bulks.slice_le (H := H) (lits .i64 (zs.take n3)) (lits .i64 (zs.drop n3))
      simp only [lits, List.length_map, List.length_take, List.length_drop] at h2 hb
      omega
  obtain ⟨a4, rfl, rfl, rfl, w4⟩ := open_int Try.underlying2 (hval 4 2 v4 rfl rfl) h4
  obtain ⟨a5, rfl, rfl, rfl, w5⟩ := open_int Try.underlying2 (hval 5 2 v5 rfl rfl) h5
  obtain ⟨a6, rfl, rfl, rfl, w6⟩ := open_int Try.underlying2 (hval 6 2 v6 rfl rfl) h6
  obtain ⟨A7, n7, c7, rfl⟩ := okWide_slice Try.underlying32 (hval 7 32 v7 rfl rfl)
  have k7 := h7
  have lt7 : ∀ x ∈ p7, x.block < W.heap.size := by obtain ⟨m, hm⟩ := k7; exact DataW.trod_lt m _ _ _ hm
  obtain ⟨z7, w7, r7⟩ : ∃ zs, IsRow .i64 W A7 n7 c7 zs ∧ c7 ≤ 1048576 := by
    obtain ⟨fuel, hf⟩ := h7
    rcases open_ints Try.underlying32 Try.underlying3 (by kernel_rfl) hf with ⟨hcs, _⟩ | ⟨x, l, c, zs, hcs, _, hl, hm, hz, hx, hcell, hwz⟩
    · simp [Value.cells] at hcs
      obtain ⟨rfl, rfl, rfl⟩ := hcs
      exact ⟨[], .inl ⟨rfl, rfl, rfl, rfl⟩, by omega⟩
    · simp [Value.cells] at hcs
      obtain ⟨rfl, rfl, rfl⟩ := hcs
      have hz' : zs.length = c7 := by simpa using hz
      refine ⟨zs, .inr ⟨_, rfl, hl, hm, hz', hcell, hwz⟩, ?_⟩
      have hd : d7 = _ := congrArg Prod.fst hx
      have hb := bulks.bound hk
      simp only [List.append_nil, Rows.uptoBulkAll] at hb
      rw [hd] at hb
      have h2 := bulks.slice_le (H := H) (lits .i64 (zs.take n7)) (lits .i64 (zs.drop n7))
      simp only [lits, List.length_map, List.length_take, List.length_drop] at h2 hb
      omega
  clear hA0 hval0
  refine (seriesForms_law A0 n0 c0 z0 A1 n1 c1 z1 A2 n2 c2 z2 A3 n3 c3 z3 a4 a5 a6 A7 n7 c7 z7 W w0 r0 w1 r1 w2 r2 w3 r3 w4 w5 w6 w7 r7).mono fun e W' ⟨he, bel⟩ => ?_
  subst he
  exact ⟨_, rfl, _, _, _, [], _, [], hW', trodAll_mk1 (shut_bool Try.underlying4 _), (trodAll_cons_mk (Below.trod laidOut (by kernel_rfl) (of_decide_eq_true (by kernel_rfl)) k0 bel lt0) (trodAll_cons_mk (Below.trod laidOut (by kernel_rfl) (of_decide_eq_true (by kernel_rfl)) k1 bel lt1) (trodAll_cons_mk (Below.trod laidOut (by kernel_rfl) (of_decide_eq_true (by kernel_rfl)) k2 bel lt2) (trodAll_cons_mk (Below.trod laidOut (by kernel_rfl) (of_decide_eq_true (by kernel_rfl)) k3 bel lt3) (trodAll_cons_mk (shut_int Try.underlying2 w4) (trodAll_cons_mk (shut_int Try.underlying2 w5) (trodAll_cons_mk (shut_int Try.underlying2 w6) (trodAll_cons_mk (Below.trod laidOut (by kernel_rfl) (of_decide_eq_true (by kernel_rfl)) k7 bel lt7) trodAll_mk0)))))))), rfl, bel.frame _, fun h => by cases h⟩

/-! The three facts that cost the kernel most, each by itself: together with the others they pass its room. -/
theorem enters : Try.pinned.checked.prog.mayEnter = true := by kernel_rfl
theorem lifts : (Rows.seriesFormsUptoRow.lifted == Try.pinned.checked.prog.liftsFinal) = true := by kernel_rfl
theorem makes : (Try.pinned.checked.prog.make == some Rows.seriesFormsUptoRow.make) = true := by kernel_rfl
theorem joined : joinedFacts Try.pinned.checked.prog 11 Try.f11 (Rows.OpenSpec.upto Rows.seriesFormsSpec).bare Rows.seriesFormsUptoRow = true := by
  unfold joinedFacts
  rw [enters, lifts, makes]
  kernel_rfl
theorem over : Rows.seriesFormsUptoRow.holds Try.pinned (Rows.OpenSpec.upto Rows.seriesFormsSpec) :=
  OpenClaim.holds_of_cond 11 Try.f11 rfl rfl rfl rfl rfl rfl rfl ⟨rfl, rfl, rfl, rfl, rfl⟩ rfl rfl rfl rfl rfl (by kernel_rfl) Try.func11 joined
    (of_decide_eq_true (by kernel_rfl)) (by unfold Func.isWrapper; first | (rw [if_pos (by decide +kernel)]; kernel_rfl) | (rw [if_neg (by decide +kernel)]; exact ⟨rfl, rfl⟩))
    (fun os started H enc _ F => lifted os started H enc F)

theorem proved : Rows.SeriesFormsUptoSaid := over
#print axioms proved
end Go.Proofs.Ytabgmodllifgjaa.seriesForms
