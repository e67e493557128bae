/- Chapter 33: two summaries compared; what shaken keeps; the law's numbers. Conditions: none. --ext6 -/
import Derived.Test.YtbndknhljkpijaaDoorSt5
import Derived.Test.YtbndknhljkpijaaDoorTq10
namespace Go.Proofs.YtbndknhljkpijaaDoor
open Go.RowKit Go.Ab Go.Wd
set_option maxRecDepth 100000
set_option linter.unusedVariables false
set_option linter.unusedSimpArgs false

/-- A value is equal to itself. -/
def Eqs (P : Program) (d : Nat) (t : TypeId) (v : Value) : Prop := ∀ w, (Op.equalIn d t v v).run P w = .ok true w
theorem eqs_int {P : Program} {d : Nat} {t : TypeId} {k k' : IntKind} {a : Int} (h : P.underlying t = some (.int k')) : Eqs P (d + 1) t (.int k a) := fun w => by
  rw [run_equalIn_int w d t k k' a a h]; simp
theorem eqs_bool {P : Program} {d : Nat} {t : TypeId} {a : Bool} (h : P.underlying t = some .bool) : Eqs P (d + 1) t (.bool a) := fun w => by
  rw [run_equalIn_bool' w d t a a h]; simp
theorem eqs_items {P : Program} {d : Nat} {e : TypeId} {xs : Array Value} {w : World} : ∀ (is : List Nat), (∀ i ∈ is, ∃ v, (Go.part e xs (i * 1)).run P w = .ok v w ∧ Eqs P d e v) → (Op.eqItems d e 1 xs xs is).run P w = .ok true w
  | [], _ => rfl
  | i :: is, h => by
    obtain ⟨v, h1, h2⟩ := h i (by simp)
    have ih := eqs_items is (fun j hj => h j (by simp [hj]))
    simp only [Op.eqItems, Sem.run_bind, h1, h2 w, Result.andThen_ok]
    simp [ih]
theorem eqs_fields {P : Program} {d : Nat} {xs : Array Value} {w : World} : ∀ (fs : List Field), (∀ f ∈ fs, ∃ v, (Go.part f.type xs f.offset).run P w = .ok v w ∧ Eqs P d f.type v) → (Op.eqFields d xs xs fs).run P w = .ok true w
  | [], _ => rfl
  | f :: fs, h => by
    obtain ⟨v, h1, h2⟩ := h f (by simp)
    have ih := eqs_fields fs (fun j hj => h j (by simp [hj]))
    simp only [Op.eqFields, Sem.run_bind, Sem.run_ite, h1, h2 w, Result.andThen_ok]
    split <;> simp [ih]
theorem eqs_w4 {d : Nat} {a b c e : Int} : Eqs Tryd.prog (d + 2) 29 (.agg #[.int .u64 a, .int .u64 b, .int .u64 c, .int .u64 e]) := fun w => by
  have hu : Tryd.prog.underlying 29 = some (.array 4 28) := by kernel_rfl
  have hq : Tryd.prog.underlying 28 = some (.int .u64) := by kernel_rfl
  have hc : Tryd.prog.cellsOf 28 = 1 := by kernel_rfl
  obtain ⟨i, hi⟩ : ∃ i, Tryd.prog.info? 28 = some i := by
    cases h : Tryd.prog.info? 28 with
    | some i => exact ⟨i, rfl⟩
    | none => have : (Tryd.prog.info? 28).isSome = true := by kernel_rfl
              rw [h] at this; cases this
  rw [run_equalIn_array (w := w) (d + 1) _ _ hu hi, hc]
  refine eqs_items _ fun j hj => ?_
  have hj4 := List.mem_range.1 hj
  have hcase : j = 0 ∨ j = 1 ∨ j = 2 ∨ j = 3 := by omega
  rcases hcase with rfl | rfl | rfl | rfl
  · exact ⟨.int .u64 a, run_part_int hq rfl w, eqs_int hq⟩
  · exact ⟨.int .u64 b, run_part_int hq rfl w, eqs_int hq⟩
  · exact ⟨.int .u64 c, run_part_int hq rfl w, eqs_int hq⟩
  · exact ⟨.int .u64 e, run_part_int hq rfl w, eqs_int hq⟩
theorem run_part_cell {P : Program} {t : TypeId} {D : TypeDesc} {xs : Array Value} {off : Nat} {v : Value} (hu : P.underlying t = some D) (hD : isAggD D = false) (hx : xs[off]? = some v) (w : World) : (Go.part t xs off).run P w = .ok v w := by
  have : (isAgg t).run P w = .ok false w := by
    simp only [isAgg, Sem.run_bind, run_underlying hu, Result.andThen_ok, Sem.run_pure]
    cases D <;> first | rfl | (cases hD)
  simp only [Go.part, Sem.run_bind, this, Result.andThen_ok, Bool.false_eq_true, if_false, hx, Sem.run_pure]
theorem run_part_agg {P : Program} {t : TypeId} {D : TypeDesc} {xs : Array Value} {off n : Nat} (hu : P.underlying t = some D) (hD : isAggD D = true) (hs : (P.info? t).map (·.size) = some n) (w : World) : (Go.part t xs off).run P w = .ok (.agg (xs.extract off (off + n))) w := by
  have : (isAgg t).run P w = .ok true w := by
    simp only [isAgg, Sem.run_bind, run_underlying hu, Result.andThen_ok, Sem.run_pure]
    cases D <;> first | rfl | (cases hD)
  simp only [Go.part, Sem.run_bind, this, Result.andThen_ok, if_true, Go.Ab.run_sizeOf hs, Sem.run_pure]
theorem fields_mem {P : Program} {t : TypeId} {l : List (TypeId × Nat)} (h : (P.fieldsOf t).toList.map (fun f => (f.type, f.offset)) = l) {Q : TypeId → Nat → Prop} (hq : ∀ p ∈ l, Q p.1 p.2) : ∀ f ∈ (P.fieldsOf t).toList, Q f.type f.offset := fun f hf => by
  have : (f.type, f.offset) ∈ l := by rw [← h]; exact List.mem_map.2 ⟨f, hf, rfl⟩
  exact hq _ this
theorem eqs_wide {d : Nat} {s : Bool} {a b c e : Int} : Eqs Tryd.prog (d + 3) 31 (.agg #[.bool s, .int .u64 a, .int .u64 b, .int .u64 c, .int .u64 e]) := fun w => by
  have hs : Tryd.prog.underlying 31 = some (.struct (Tryd.prog.fieldsOf 31)) := by kernel_rfl
  rw [run_equalIn_struct w (d + 2) _ _ _ hs (by kernel_rfl)]
  have hb : Tryd.prog.underlying 4 = some .bool := by kernel_rfl
  have hu : Tryd.prog.underlying 29 = some (.array 4 28) := by kernel_rfl
  refine eqs_fields _ (fields_mem (Q := fun t o => ∃ v, (Go.part t #[.bool s, .int .u64 a, .int .u64 b, .int .u64 c, .int .u64 e] o).run Tryd.prog w = .ok v w ∧ Eqs Tryd.prog (d + 2) t v) (l := [(4, 0), (29, 1)]) (by kernel_rfl) fun p hp => ?_)
  simp only [List.mem_cons, List.not_mem_nil, or_false] at hp
  rcases hp with rfl | rfl
  · exact ⟨.bool s, run_part_cell hb rfl rfl w, eqs_bool hb⟩
  · exact ⟨_, run_part_agg (n := 4) hu rfl (by kernel_rfl) w, eqs_w4⟩
theorem eqs_sum {d : Nat} {n : Int} {s1 s2 s3 : Bool} {a b c e a' b' c' e' a'' b'' c'' e'' : Int} : Eqs Tryd.prog (d + 4) 33 (.agg #[.int .i64 n, .bool s1, .int .u64 a, .int .u64 b, .int .u64 c, .int .u64 e, .bool s2, .int .u64 a', .int .u64 b', .int .u64 c', .int .u64 e', .bool s3, .int .u64 a'', .int .u64 b'', .int .u64 c'', .int .u64 e'']) := fun w => by
  have hs : Tryd.prog.underlying 33 = some (.struct (Tryd.prog.fieldsOf 33)) := by kernel_rfl
  rw [run_equalIn_struct w (d + 3) _ _ _ hs (by kernel_rfl)]
  have hi : Tryd.prog.underlying 3 = some (.int .i64) := by kernel_rfl
  have hu : Tryd.prog.underlying 31 = some (.struct (Tryd.prog.fieldsOf 31)) := by kernel_rfl
  refine eqs_fields _ (fields_mem (Q := fun t o => ∃ v, (Go.part t #[.int .i64 n, .bool s1, .int .u64 a, .int .u64 b, .int .u64 c, .int .u64 e, .bool s2, .int .u64 a', .int .u64 b', .int .u64 c', .int .u64 e', .bool s3, .int .u64 a'', .int .u64 b'', .int .u64 c'', .int .u64 e''] o).run Tryd.prog w = .ok v w ∧ Eqs Tryd.prog (d + 3) t v) (l := [(3, 0), (31, 1), (31, 6), (31, 11)]) (by kernel_rfl) fun p hp => ?_)
  simp only [List.mem_cons, List.not_mem_nil, or_false] at hp
  rcases hp with rfl | rfl | rfl | rfl
  · exact ⟨.int .i64 n, run_part_cell hi rfl rfl w, eqs_int hi⟩
  · exact ⟨_, run_part_agg (n := 5) hu rfl (by kernel_rfl) w, eqs_wide⟩
  · exact ⟨_, run_part_agg (n := 5) hu rfl (by kernel_rfl) w, eqs_wide⟩
  · exact ⟨_, run_part_agg (n := 5) hu rfl (by kernel_rfl) w, eqs_wide⟩
section
variable {env : Nat → AV} {H : Nat → Option Blk} {d : Option Tmp} {ty : TypeId} {pos : String} {af : Array Edge} {g : Option (Nat × Bool)} {u : TypeId} {x y : Operand}
/-- Two summaries that are alike. -/
theorem p_eqsum {c w0 s q : Nat} (hx : evA env x = smA c w0 s q) (hy : evA env y = smA c w0 s q) : ReadOk Tryd.prog ⟨d, .binOp .eql 33 x y u, ty, pos, af, g⟩ env H [] (.r (.v (.bool true))) := by
  refine ⟨fun i b h => by simp at h, fun i hi => by simp [AV.ids] at hi, fun a w Z M hr _ => ?_⟩
  have h1 := hr x (by simp [Op.operands])
  have h2 := hr y (by simp [Op.operands])
  rw [hx] at h1
  rw [hy] at h2
  have key : ∀ v, AV.rep Z M w (smA c w0 s q) v → v = .agg ((smR c w0 s q).map fun r => match r with | .v x => x | _ => undef).toArray := by
    intro v hv
    rw [smA, AV.rep] at hv
    obtain ⟨us, rfl, h⟩ := hv
    congr 1
    have : us.toList = (smR c w0 s q).map fun r => match r with | .v x => x | _ => undef := by
      revert h
      generalize us.toList = l
      unfold smR
      simp only [List.map_cons, List.map_nil, AV.reps, AV.rep, RV.rep]
      rintro ⟨_, _, rfl, rfl, _, _, rfl, rfl, _, _, rfl, rfl, _, _, rfl, rfl, _, _, rfl, rfl, _, _, rfl, rfl, _, _, rfl, rfl, _, _, rfl, rfl, _, _, rfl, rfl, _, _, rfl, rfl, _, _, rfl, rfl, _, _, rfl, rfl, _, _, rfl, rfl, _, _, rfl, rfl, _, _, rfl, rfl, _, _, rfl, rfl, rfl⟩
      rfl
    rw [← this]
  have e1 := key _ h1
  have e2 := key _ h2
  have k1 := run_eqGuard_agg (P := Tryd.prog) w .eql 33 x y ((smR c w0 s q).map fun r => match r with | .v x => x | _ => undef).toArray ((smR c w0 s q).map fun r => match r with | .v x => x | _ => undef).toArray (by kernel_rfl)
  have k2 : (Op.equalIn 10000 33 (.agg ((smR c w0 s q).map fun r => match r with | .v x => x | _ => undef).toArray) (.agg ((smR c w0 s q).map fun r => match r with | .v x => x | _ => undef).toArray)).run Tryd.prog w = .ok true w := eqs_sum (d := 9996) w
  refine ⟨.bool true, ?_, by rw [AV.rep, RV.rep]⟩
  simp only [execOp, e1, e2, Sem.run_bind, k1, Result.andThen_ok, run_eql_struct, k2, Sem.run_pure]
end
end Go.Proofs.YtbndknhljkpijaaDoor
