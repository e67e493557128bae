/- Texts of the second layer in one: Cm2. -/
import Derived.Test.YtibedaeefnjjlaaGreatG1
import Derived.Test.YtibedaeefnjjlaaGreatG14
/- From a contract of the second layer to the law's form, for a list of numbers; without the checksum's texts. No conditions. -/
namespace Go.Proofs.YtibedaeefnjjlaaGreat
open Go.RowKit Go.Ab
set_option maxRecDepth 100000
set_option linter.unusedVariables false
set_option linter.unusedSimpArgs false

def iv (l : List Int) : List Value := l.map (Value.int .i64)
theorem iv_len (l : List Int) : (iv l).length = l.length := by simp [iv]
theorem iv_get (l : List Int) (k : Nat) (h : k < l.length) : (iv l)[k]? = some (.int .i64 (l[k]'h)) := by simp [iv, h]
theorem IsRow.ints {w : World} {a : Option Addr} {len cap : Nat} {zs : List Int} (h : IsRow .i64 w a len cap zs) :
    ∃ l : List Int, l.length = len ∧ len ≤ cap ∧ Ints l ∧ Rd w 1 a len (iv l) := by
  obtain ⟨h1, h2, h3, h4⟩ := h.vals
  exact ⟨zs.take len, h2, h1, fun x hx => wf_i64 (h3 x hx), h4⟩
theorem cm_calls {P : Program} {f : FuncId} {args : List AV} {us : List Value} {x : Value} {w : World} (h : Meets P f args [] (.r (.v x)) []) (hr : AV.reps (fun _ => undef) (fun _ => False) w args us) : Calls P f us.toArray w fun e w' => e = .returned x ∧ Below w.heap.size w w' := by
  refine (h w (fun _ => undef) (fun _ => False) 0 us (fun x h => h.elim) (Nat.zero_le _) hr (fun i b h => by simp [numd] at h) (fun i j b c h => by simp [numd] at h)).mono fun e w' ⟨v, he, Z', A⟩ => ?_
  have h1 := A.out
  simp only [callSp, AV.unfr, AV.rep, RV.rep] at h1
  subst h1
  refine ⟨he, Go.Ab.Upto.to_below (A.upto.mono fun q _ h => ?_)⟩
  obtain ⟨i, o, hi, _⟩ := h
  simp [callSp, numdP] at hi
theorem cm_nums (B : Nat → Prop) (w : World) : ∀ l : List Int, RVs B w (nums .i64 l).flatten (iv l)
  | [] => .nil
  | x :: l => by
    rw [nums, List.map_cons, List.flatten_cons, iv, List.map_cons]
    exact .cons rfl (by rw [RV.rep]) (cm_nums B w l)
theorem cm_rdi {B : Nat → Prop} {w : World} {A : Option Addr} {n c : Nat} {l : List Int} (h : Rd w 1 A n (iv l)) (hn : n ≤ c) (hc : c ≤ maxLen) (hB : ∀ q, q < w.heap.size → ¬ B q) : RV.rep B w (.sl 1 (nums .i64 l)) (.slice A n c) := by
  have hl : l.length = n := by have := h.1; rw [iv_len] at this; omega
  rw [RV.rep, nums_len]
  refine ⟨A, c, by rw [hl], by omega, hc, fun e he => by simp only [nums, List.mem_map] at he; obtain ⟨b, _, rfl⟩ := he; rfl, fun hne => ?_⟩
  have hpos : 0 < n := by
    rcases Nat.eq_zero_or_pos n with h0 | h0
    · exact absurd (List.eq_nil_of_length_eq_zero (by rw [nums_len]; omega)) hne
    · exact h0
  obtain ⟨ad, e, hcell⟩ := h.2 hpos
  have hlt : ad.block < w.heap.size := by
    have := block_lt_of_cell (hcell 0 _ (iv_get l 0 (by omega)))
    rwa [add_block] at this
  refine ⟨ad, e, hlt, hB _ hlt, ?_⟩
  rw [RV.rows_flat, RV.row_vals]
  exact ⟨iv l, cm_nums _ _ l, fun j v hj => by rw [Nat.zero_add]; exact hcell j v hj⟩
end Go.Proofs.YtibedaeefnjjlaaGreat
