/- From the contracts of the first layer to those of the second. No conditions. -/
import Derived.Test.YtabgmodllifgjaaGB
import Derived.Test.YtabgmodllifgjaaTy
import Derived.Test.YtabgmodllifgjaaCrcLaw2
namespace Go.Proofs.Ytabgmodllifgjaa
open Go.RowKit Go.Ab
set_option maxRecDepth 100000
set_option linter.unusedVariables false

theorem rep_rd {B : Nat → Prop} {w : World} {l : List UInt8} {u : Value} (h : RV.rep B w (.sl 1 (bys l)) u) : ∃ A c, u = .slice A l.length c ∧ l.length ≤ c ∧ c ≤ maxLen ∧ Rd w 1 A l.length (bv l) := by
  rw [RV.rep, bys_len] at h
  obtain ⟨A, c, h1, h2, h3, h4, h5⟩ := h
  refine ⟨A, c, h1, h2, h3, by simp [bv], fun hn => ?_⟩
  obtain ⟨ad, e, _, _, h6⟩ := h5 (by intro e; have h := congrArg List.length e; rw [bys_len, List.length_nil] at h; omega)
  rw [RV.rows_flat, RV.row_vals] at h6
  obtain ⟨us, h7, h8⟩ := h6
  refine ⟨ad, e, fun j v hj => ?_⟩
  have := bys_vals l us h7
  have h9 := h8 j v (by rw [this, List.map_map]; exact hj)
  rwa [Nat.zero_add] at h9
theorem rvs_bys (B : Nat → Prop) (w : World) : ∀ l : List UInt8, RVs B w (bys l).flatten (bv l)
  | [] => .nil
  | b :: l => by
    rw [bys, List.map_cons, List.flatten_cons, bv, List.map_cons]
    exact .cons rfl (by rw [RV.rep]) (rvs_bys B w l)
theorem after_val {k : Nat} {Z : Nat → Value} {M : Nat → Prop} {w w' : World} {v : Value} (hb : Below w.heap.size w w') : After k (callSp k [] (.r (.v v)) []) Z M w v w' :=
  ⟨Z, fun _ _ => rfl, by simp only [callSp, AV.unfr, AV.rep, RV.rep], fun i b h => by simp [callSp, numdP] at h, fun j b h => by simp [callSp, AV.unfr] at h, fun j j' x h => by simp [callSp, AV.unfr] at h, fun j x h => by simp [callSp, AV.unfr] at h, Go.Ab.Upto.of_below hb⟩
theorem own_blk {w : World} {base x : Nat} {v : Value} {l : List UInt8} (ho : Own w base v l) (hx : blk v = some x) : base ≤ x := by
  have h1 : v.ownBlock = some x := by
    obtain ⟨A, c, e, _⟩ := ho.form
    subst e
    cases A with
    | none => simp [blk] at hx
    | some ad => simpa [blk, Value.ownBlock] using hx
  exact (ho.ownBlock x h1).1
theorem after_fresh {k : Nat} {Z : Nat → Value} {M : Nat → Prop} {w w' : World} {v : Value} {l : List UInt8} (hM : ∀ x, M x → x < w.heap.size) (ho : Own w' w.heap.size v l) (hb : Below w.heap.size w w') : After k (callSp k [] (.fr 5 1 (bys l)) []) Z M w v w' := by
  refine ⟨fun i => if i = k then v else Z i, fun i hi => ?_, ?_, fun i b h => by simp [callSp, numdP] at h, fun j b hj => ?_, fun j j' x hj hj' hne => ?_, fun j x hj hx => .inl ?_, Go.Ab.Upto.of_below hb⟩
  · have : i ≠ k := by simp [callSp, AV.unfr] at hi; omega
    simp [this]
  · simp [callSp, AV.unfr, AV.rep]
  · cases j with
    | zero =>
      simp [callSp, AV.unfr] at hj
      subst hj
      refine ⟨bv l, ?_, rvs_bys _ _ l, fun e he => by simp only [bys, List.mem_map] at he; obtain ⟨b, _, rfl⟩ := he; rfl⟩
      simp only [Nat.add_zero, if_pos, bys_len]
      exact ho.mono (Nat.zero_le _)
    | succ j => simp [callSp, AV.unfr] at hj
  · simp [callSp, AV.unfr] at hj hj'; omega
  · have : j = 0 := by simpa [callSp, AV.unfr] using hj
    subst this
    simp only [Nat.add_zero, if_pos] at hx
    have h1 : v.ownBlock = some x := by
      obtain ⟨A, c, e, _⟩ := ho.form
      subst e
      cases A with
      | none => simp [blk] at hx
      | some ad => simpa [blk, Value.ownBlock] using hx
    exact (ho.ownBlock x h1).1
/-- A function of one byte slice that hands back a value. -/
theorem meets_bytes {f : FuncId} {l : List UInt8} {v : Value} (h : ∀ A c w, l.length ≤ c → l.length ≤ maxLen → Rd w 1 A l.length (bv l) → Calls Try.prog f #[.slice A l.length c] w fun e w' => e = .returned v ∧ Below w.heap.size w w') : Meets Try.prog f [.r (.sl 1 (bys l))] [] (.r (.v v)) [] := by
  intro w Z M k us hM hk hargs _ _
  simp only [AV.reps, AV.rep] at hargs
  obtain ⟨u, us', rfl, h1, rfl⟩ := hargs
  obtain ⟨A, c, rfl, h2, h3, h4⟩ := rep_rd h1
  exact (h A c w h2 (by omega) h4).mono fun e w' ⟨he, hb⟩ => ⟨v, he, after_val hb⟩
theorem meets_fresh {f : FuncId} {l l' : List UInt8} (h : ∀ A c w, l.length ≤ c → l.length ≤ maxLen → Rd w 1 A l.length (bv l) → Calls Try.prog f #[.slice A l.length c] w (Fresh w l')) : Meets Try.prog f [.r (.sl 1 (bys l))] [] (.fr 5 1 (bys l')) [] := by
  intro w Z M k us hM hk hargs _ _
  simp only [AV.reps, AV.rep] at hargs
  obtain ⟨u, us', rfl, h1, rfl⟩ := hargs
  obtain ⟨A, c, rfl, h2, h3, h4⟩ := rep_rd h1
  exact (h A c w h2 (by omega) h4).mono fun e w' ⟨r, he, ho, hb⟩ => ⟨r, he, after_fresh hM ho hb⟩
theorem check_m (l : List UInt8) : Meets Try.prog 36 [.r (.sl 1 (bys l))] [] (.r (.v (.bool (chk l)))) [] := meets_bytes fun A c w h1 h2 h3 => check_any l A _ c w h3 h1 h2
theorem crcAppend_m (l : List UInt8) (h : l.length ≤ 140737488355320) : Meets Try.prog 35 [.r (.sl 1 (bys l))] [] (.fr 5 1 (bys (l ++ le (Crc.crc 0 l) 4))) [] := meets_fresh fun A c w h1 h2 h3 => crcAppend_any l A _ c w h3 h
theorem refAppend_m (l : List UInt8) (h : l.length ≤ 140737488355320) : Meets Try.prog 30 [.r (.sl 1 (bys l))] [] (.fr 5 1 (bys (l ++ le (Crc.crc 0 l) 4))) [] := meets_fresh fun A c w h1 h2 h3 => refAppend_any l A _ c w h3 h
theorem refCheck_m (l : List UInt8) (h : l.length ≤ 211106232532992) : Meets Try.prog 37 [.r (.sl 1 (bys l))] [] (.r (.v (.bool (chk l)))) [] := meets_bytes fun A c w h1 h2 h3 => refCheck_any l A _ c w h3 h1 h
theorem clone_m (l : List UInt8) (h : l.length ≤ 140737488355328) : Meets Try.prog 86 [.r (.sl 1 (bys l))] [] (.fr 5 1 (bys l)) [] := meets_fresh fun A c w h1 h2 h3 => clone_any l A _ c w h3 h
theorem read_m (l : List UInt8) (h : l.length ≤ 8) : Meets Try.prog 87 [.r (.sl 1 (bys l))] [] (.r (.v (.int .u64 (val l)))) [] := meets_bytes fun A c w h1 h2 h3 => (little_read l A _ c w h3 h).mono fun e w' ⟨he, hw⟩ => ⟨he, hw ▸ Below.refl _ _⟩
end Go.Proofs.Ytabgmodllifgjaa
