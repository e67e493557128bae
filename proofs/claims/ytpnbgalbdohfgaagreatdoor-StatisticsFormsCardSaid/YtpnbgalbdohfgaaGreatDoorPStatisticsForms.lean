/- The statement of the law StatisticsForms: for every input it returns true and leaves the arguments as they were. No condition beside the row's own. -/
import Derived.Test.YtpnbgalbdohfgaaGreatDoorRows
import Derived.Test.YtpnbgalbdohfgaaGreatDoorG24
import Derived.WalkKit
import Derived.ProofKit
import Derived.OpenShut
import Derived.ShutString
import Derived.ChangeOld
import Derived.SizedLaws
import Derived.Below
import Derived.Lay
import Derived.LaidMore
import Derived.SevenTiedAt
import Derived.Test.YtpnbgalbdohfgaaGreatDoorCards
import Derived.Test.YtpnbgalbdohfgaaGreatDoorTie
namespace Go.Proofs.YtpnbgalbdohfgaaGreatDoor.statisticsForms
open Go.ChangeShapes Go.WideShapes Go.ChangeAt Go.RowKit
open Go.ChangeMaps (open_string shut_string)
set_option linter.unusedVariables false

theorem own : ownKnob Tryz.prog.godebug = none := by kernel_rfl
theorem laidOut : laidOutB Tryz.prog = true := by kernel_rfl

set_option maxRecDepth 100000 in
theorem lifted (os : Os) (started : os.Started) (H : Type) (enc : TypeId × Value → H) :
    ReturnsInHanded {} Tryz.checked os 3 .any (fun w args => (Rows.statisticsFormsSpec.pre enc Tryz.prog Tryz.f3 [] false w args ∧ laidMetH Tryz.prog Rows.statisticsFormsRow.laid w) ∧ sizedMet enc Tryz.prog Tryz.f3 (OpenSpec.ofChange Rows.statisticsFormsSpec) false w args) (Rows.statisticsFormsSpec.post enc Tryz.prog Tryz.f3 false true false false) := by
  refine returnsInHanded_of_change_and (C := Tryz.checked) (X := fun w _ => laidMetH Tryz.prog Rows.statisticsFormsRow.laid w) (fun _ _ _ hh h => h.of_heap hh) own started (by kernel_rfl) Tryz.func3
    (ChangeSpec.witness_shaped (enc := enc) (C := Tryz.checked) (os := os) (X := fun w _ => laidMetH Tryz.prog Rows.statisticsFormsRow.laid w) false (World.laidAll Tryz.prog os Rows.statisticsFormsRow.laid) #[.slice none 0 0, .slice none 0 0, .agg #[.int .i64 0, .bool false, .int .u64 0, .int .u64 0, .int .u64 0, .int .u64 0, .bool false, .int .u64 0, .int .u64 0, .int .u64 0, .int .u64 0, .bool false, .int .u64 0, .int .u64 0, .int .u64 0, .int .u64 0], .slice none 0 0] 8 (World.laidAll_os _ _ _)
      (World.shaped_of_ZipB (by kernel_rfl) (by kernel_rfl)) (by kernel_rfl) (by kernel_rfl) (by kernel_rfl)
      (by rw [MakeChecks.laidMetH_plain _ _ _ (by kernel_rfl)]; exact laidMet_laidAll _ (by kernel_rfl) (by kernel_rfl))) ?_
  intro W base args ds gs before hval0 hW hcnd hsz0 hL _
  have hsz : (DataW.weightsEach Tryz.prog (Tryz.f3.params.toList ++ Rows.statisticsFormsSpec.plain.varTypes Tryz.prog) (ds ++ gs)).all (· ≤ reachBytes) = true := hsz0
  have hval : ∀ (j : Nat) t v, Tryz.f3.params[j]? = some t → args[j]? = some v → Value.okWide Tryz.prog W .any base t v := hval0
  have hW' := hW
  obtain ⟨p, q, hA0, hV, rfl, hfz, hnd⟩ := hW
  have hA : DataW.TrodAll enc Tryz.prog W 0 (fun _ => true) true Tryz.f3.params.toList args.toList ds p := hA0
  rw [Tryz.params3] at hA hval hsz
  obtain ⟨v0, vs0, d0, ds0, p0, q0, hargs, rfl, rfl, h0, r0_⟩ := trodAll_cons hA
  obtain ⟨v1, vs1, d1, ds1, p1, q1, rfl, rfl, rfl, h1, r1_⟩ := trodAll_cons r0_
  obtain ⟨v2, vs2, d2, ds2, p2, q2, rfl, rfl, rfl, h2, r2_⟩ := trodAll_cons r1_
  obtain ⟨v3, vs3, d3, ds3, p3, q3, rfl, rfl, rfl, h3, r3_⟩ := trodAll_cons r2_
  obtain ⟨rfl, rfl, rfl⟩ := trodAll_nil r3_
  obtain rfl : args = #[v0, v1, v2, v3] := by cases args; simp_all
  obtain ⟨rfl, rfl⟩ := trodVars_none hV
  obtain ⟨A0, n0, c0, rfl⟩ := okWide_slice Tryz.underlying22 (hval 0 22 v0 rfl rfl)
  have k0 := h0
  have lt0 : ∀ x ∈ p0, x.block < W.heap.size := by obtain ⟨m, hm⟩ := k0; exact DataW.trod_lt m _ _ _ hm
  obtain ⟨z0, w0, r0⟩ : ∃ zs, IsSmp W A0 n0 c0 zs ∧ c0 * 16 ≤ 140737488351232 := by
    obtain ⟨fuel, hf⟩ := h0
    obtain ⟨zs, hz, hs⟩ := open_smps hf
    refine ⟨zs, hz, ?_⟩
    have hnc := hz.take.1
    rcases hs with hs | ⟨el, sp, hx, h1, h2⟩
    · omega
    · have hd : d0 = .slice el sp := hx
      have hs := hsz
      rw [hd] at hs
      have := sized_slice hs (j := 0) (t := 22) (e := 47) rfl rfl Tryz.underlying22
      rw [show Tryz.prog.bytesOf 47 = 16 from by kernel_rfl] at this
      simp only [reachBytes] at this
      rw [show el.length + sp.length = c0 by omega] at this
      omega
  obtain ⟨A1, n1, c1, rfl⟩ := okWide_slice Tryz.underlying22 (hval 1 22 v1 rfl rfl)
  have k1 := h1
  have lt1 : ∀ x ∈ p1, x.block < W.heap.size := by obtain ⟨m, hm⟩ := k1; exact DataW.trod_lt m _ _ _ hm
  obtain ⟨z1, w1, r1⟩ : ∃ zs, IsSmp W A1 n1 c1 zs ∧ c1 * 16 ≤ 140737488351232 := by
    obtain ⟨fuel, hf⟩ := h1
    obtain ⟨zs, hz, hs⟩ := open_smps hf
    refine ⟨zs, hz, ?_⟩
    have hnc := hz.take.1
    rcases hs with hs | ⟨el, sp, hx, h1, h2⟩
    · omega
    · have hd : d1 = .slice el sp := hx
      have hs := hsz
      rw [hd] at hs
      have := sized_slice hs (j := 1) (t := 22) (e := 47) rfl rfl Tryz.underlying22
      rw [show Tryz.prog.bytesOf 47 = 16 from by kernel_rfl] at this
      simp only [reachBytes] at this
      rw [show el.length + sp.length = c1 by omega] at this
      omega
  have k2 := h2
  have lt2 : ∀ x ∈ p2, x.block < W.heap.size := by obtain ⟨m, hm⟩ := k2; exact DataW.trod_lt m _ _ _ hm
  obtain ⟨a2, b2, x2, e2, w2⟩ := open_sumV (hval 2 28 v2 rfl rfl) h2
  obtain ⟨A3, n3, c3, rfl⟩ := okWide_slice Tryz.underlying29 (hval 3 29 v3 rfl rfl)
  have k3 := h3
  have lt3 : ∀ x ∈ p3, x.block < W.heap.size := by obtain ⟨m, hm⟩ := k3; exact DataW.trod_lt m _ _ _ hm
  obtain ⟨z3, w3, r3⟩ : ∃ zs, IsRow .i64 W A3 n3 c3 zs ∧ c3 * 8 ≤ 140737488351232 := by
    obtain ⟨fuel, hf⟩ := h3
    rcases open_ints Tryz.underlying29 Tryz.underlying3 (by kernel_rfl) hf with ⟨hcs, _⟩ | ⟨x, l, c, zs, hcs, _, hl, hm, hz, hx, hcell, hwz⟩
    · simp [Value.cells] at hcs
      obtain ⟨rfl, rfl, rfl⟩ := hcs
      exact ⟨[], .inl ⟨rfl, rfl, rfl, rfl⟩, by omega⟩
    · simp [Value.cells] at hcs
      obtain ⟨rfl, rfl, rfl⟩ := hcs
      have hz' : zs.length = c3 := by simpa using hz
      refine ⟨zs, .inr ⟨_, rfl, hl, hm, hz', hcell, hwz⟩, ?_⟩
      have hd : d3 = _ := congrArg Prod.fst hx
      have hs := hsz
      rw [hd] at hs
      have := sized_slice hs (j := 3) (t := 29) (e := 3) rfl rfl Tryz.underlying29
      rw [show Tryz.prog.bytesOf 3 = 8 from by kernel_rfl] at this
      simp only [lits, List.length_map, List.length_take, List.length_drop, reachBytes] at this
      omega
  clear hA0 hval0 hsz0
  refine (statisticsForms_law A0 n0 c0 z0 A1 n1 c1 z1 v2 a2 b2 x2 e2 A3 n3 c3 z3 W w0 r0 w1 r1 w2 w3 r3 hL).mono fun e W' ⟨he, bel⟩ => ?_
  subst he
  exact ⟨_, rfl, _, _, _, [], _, [], hW', trodAll_mk1 (shut_bool Tryz.underlying4 _), (trodAll_cons_mk (Below.trod laidOut (by kernel_rfl) (of_decide_eq_true (by kernel_rfl)) k0 bel lt0) (trodAll_cons_mk (Below.trod laidOut (by kernel_rfl) (of_decide_eq_true (by kernel_rfl)) k1 bel lt1) (trodAll_cons_mk (Below.trod laidOut (by kernel_rfl) (of_decide_eq_true (by kernel_rfl)) k2 bel lt2) (trodAll_cons_mk (Below.trod laidOut (by kernel_rfl) (of_decide_eq_true (by kernel_rfl)) k3 bel lt3) trodAll_mk0)))), rfl, bel.frame _, fun h => by cases h⟩

/-! The three facts that cost the kernel most, each by itself: together with the others they pass its room. -/
theorem enters : Tryz.pinned.checked.prog.mayEnter = true := by kernel_rfl
theorem lifts : (Rows.statisticsFormsRow.lifted == Tryz.pinned.checked.prog.liftsFinal) = true := by kernel_rfl
theorem makes : (Tryz.pinned.checked.prog.make == some Rows.statisticsFormsRow.make) = true := by kernel_rfl
theorem joined : joinedFacts Tryz.pinned.checked.prog 3 Tryz.f3 Rows.statisticsFormsSpec Rows.statisticsFormsRow = true := by
  unfold joinedFacts
  rw [enters, lifts, makes]
  kernel_rfl
theorem over : Rows.statisticsFormsRow.holds Tryz.pinned (OpenSpec.ofChange Rows.statisticsFormsSpec) :=
  OpenClaim.holds_of_wide 3 Tryz.f3 rfl rfl rfl rfl rfl rfl rfl ⟨rfl, rfl, rfl, rfl, rfl⟩ rfl rfl rfl rfl rfl (by kernel_rfl) Tryz.func3 joined
    (of_decide_eq_true (by kernel_rfl)) (by unfold Func.isWrapper; first | (rw [if_pos (by decide +kernel)]; kernel_rfl) | (rw [if_neg (by decide +kernel)]; exact ⟨rfl, rfl⟩))
    (fun os started H enc _ => lifted os started H enc)

theorem proved : Rows.StatisticsFormsCardSaid :=
  Claim7.holds_tied_plain_at .later [] [.data, .data, .data] true (true, "cbfd3093aae7ed9c2a1020248cb484ac8cb16bccce403cbb4c0aec3213b9686b") false over (fun _ h => by cases h) (by kernel_rfl) (fun _ h => by cases h) statisticsForms_row_tie rfl ⟨rfl, rfl⟩ (by kernel_rfl) rfl
    (fun f fn hf hfn => by
      obtain rfl : f = 3 := Option.some.inj ((show Tryz.prog.funcNamed "tscodec/tscodeclaw33.StatisticsForms" = some 3 by kernel_rfl).symm.trans hf) |>.symm
      obtain rfl : fn = Tryz.f3 := (Option.some.inj (Tryz.func3.symm.trans hfn)).symm
      exact ⟨by kernel_rfl, fun j t ht => by
        rw [Tryz.params3] at ht
        have hm : t ∈ [22, 28, 29] := by simpa using Array.mem_of_getElem? ht
        have hall : ([22, 28, 29].all fun u => !Tryz.prog.wantsStandIn u) = true := by kernel_rfl
        exact (show Tryz.prog.wantsStandIn t = false by simpa using List.all_eq_true.1 hall t hm)⟩)
    (by kernel_rfl)
#print axioms proved
end Go.Proofs.YtpnbgalbdohfgaaGreatDoor.statisticsForms
