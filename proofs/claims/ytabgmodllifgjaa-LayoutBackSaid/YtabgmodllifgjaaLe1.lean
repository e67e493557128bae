/- Chapter 28: rows of entries; sizes, End, ValidEntries and Same. Conditions: lengths, ranges. --ext4 -/
import Derived.Test.YtabgmodllifgjaaVa6
namespace Go.Proofs.Ytabgmodllifgjaa
open Go.RowKit Go.Ab
set_option maxRecDepth 100000
set_option linter.unusedVariables false
set_option linter.unusedSimpArgs false

structure Ent where
  off : Int
  len : Int
  cnt : Int
  fst : Int
  lst : Int
def e0 : Ent := ⟨0, 0, 0, 0, 0⟩
def Ent.row (s : Ent) : List RV := [.v (.int .i64 s.off), .v (.int .i64 s.len), .v (.int .i64 s.cnt), .v (.int .i64 s.fst), .v (.int .i64 s.lst)]
def ents (l : List Ent) : List (List RV) := l.map Ent.row
theorem ents_len (l : List Ent) : (ents l).length = l.length := by simp [ents]
theorem ents_get {l : List Ent} {j : Nat} (h : j < l.length) : (ents l)[j]? = some [.v (.int .i64 (l.getD j e0).off), .v (.int .i64 (l.getD j e0).len), .v (.int .i64 (l.getD j e0).cnt), .v (.int .i64 (l.getD j e0).fst), .v (.int .i64 (l.getD j e0).lst)] := by simp [ents, Ent.row, h]
theorem ents_append (a b : List Ent) : ents (a ++ b) = ents a ++ ents b := by simp [ents]
def EntI (s : Ent) : Prop := I64 s.off ∧ I64 s.len ∧ I64 s.cnt ∧ I64 s.fst ∧ I64 s.lst
def EntsI (l : List Ent) : Prop := ∀ s ∈ l, EntI s
theorem ent_mem (l : List Ent) (i : Nat) (h : i < l.length) : l.getD i e0 ∈ l := by
  have : l.getD i e0 = l[i] := by simp [h]
  rw [this]; exact List.getElem_mem h
theorem EntsI.get {l : List Ent} (h : EntsI l) (i : Nat) : EntI (l.getD i e0) := by
  rcases Nat.lt_or_ge i l.length with hi | hi
  · exact h _ (ent_mem l i hi)
  · have : l.getD i e0 = e0 := by simp [hi]
    rw [this]; unfold EntI I64 e0; dsimp only; omega
def rngB (a c : Int) : Bool := decide (13 ≤ a ∧ a ≤ 4194317 ∧ 1 ≤ c ∧ c ≤ 4096)
theorem inRange_m (a c : Int) : Meets Try.prog 111 [.r (.v (.int .u64 a)), .r (.v (.int .u64 c))] [] (.r (.v (.bool (rngB a c)))) [] := by
  refine fn_of Try.func111 rfl (Nat.le_of_ble_eq_true rfl) rfl rfl ?_
  (repeat' (first | (first | (refine is_move ?_; first | refine w_skip rfl q_d6b09 ?_ | refine w_read rfl q_85eb5 q_2ce30 ?_) | (refine is_assign ?_; first | refine w_read rfl (.inl ⟨rfl, rfl⟩) q_732c1 ?_) | (refine is_pick ?_; first | refine w_read rfl (.inl ⟨rfl, rfl⟩) q_651c9 ?_) | (refine is_bin ?_; first | (refine is_b_leq ?_; first | refine w_skip rfl q_d6b09 ?_ | (refine w_dec rfl q_85eb5 (p_leq rfl rfl) (fun hb => ?_) (fun hb => ?_) <;> (try (exfalso; omega)))) | (refine is_b_geq ?_; first | refine w_skip rfl q_d6b09 ?_ | (refine w_dec rfl q_85eb5 (p_geq rfl rfl) (fun hb => ?_) (fun hb => ?_) <;> (try (exfalso; omega)))))) | (first | refine awp_seq ?_ | refine thenA_ret ?_ | refine blockA_ret ?_ | refine awp_block ?_ | refine awp_text ?_ | refine awp_any (by kernel_rfl) ?_ | refine w_nilT ?_ | refine w_nil (by kernel_rfl) ?_ | refine awp_condT rfl ?_ | refine awp_condF rfl ?_ | refine awp_skip ?_ | refine awp_exit ?_ | refine awp_ret ?_) | (refine awp_cond rfl (fun hb => ?_) (fun hb => ?_) <;> (try simp only [Bool.not_eq_true', Bool.not_eq_false', decide_eq_true_eq, decide_eq_false_iff_not] at hb) <;> (try (exfalso; omega)))))
  all_goals first | exact ret1 [] (.bool (decide_eq_true (by omega)).symm) rfl rfl rfl | exact ret1 [] (.bool (decide_eq_false (by omega)).symm) rfl rfl rfl
theorem refSizes_m (a c : Int) : Meets Try.prog 112 [.r (.v (.int .u64 a)), .r (.v (.int .u64 c))] [] (.r (.v (.bool (rngB a c)))) [] := by
  refine fn_of Try.func112 rfl (Nat.le_of_ble_eq_true rfl) rfl rfl ?_
  (repeat' (first | (first | (refine is_move ?_; first | refine w_skip rfl q_d6b09 ?_ | refine w_read rfl q_85eb5 q_2ce30 ?_) | (refine is_assign ?_; first | refine w_read rfl (.inl ⟨rfl, rfl⟩) q_732c1 ?_) | (refine is_pick ?_; first | refine w_read rfl (.inl ⟨rfl, rfl⟩) q_651c9 ?_) | (refine is_bin ?_; first | (refine is_b_leq ?_; first | refine w_skip rfl q_d6b09 ?_ | (refine w_dec rfl q_85eb5 (p_leq rfl rfl) (fun hb => ?_) (fun hb => ?_) <;> (try (exfalso; omega)))) | (refine is_b_geq ?_; first | refine w_skip rfl q_d6b09 ?_ | (refine w_dec rfl q_85eb5 (p_geq rfl rfl) (fun hb => ?_) (fun hb => ?_) <;> (try (exfalso; omega)))))) | (first | refine awp_seq ?_ | refine thenA_ret ?_ | refine blockA_ret ?_ | refine awp_block ?_ | refine awp_text ?_ | refine awp_any (by kernel_rfl) ?_ | refine w_nilT ?_ | refine w_nil (by kernel_rfl) ?_ | refine awp_condT rfl ?_ | refine awp_condF rfl ?_ | refine awp_skip ?_ | refine awp_exit ?_ | refine awp_ret ?_) | (refine awp_cond rfl (fun hb => ?_) (fun hb => ?_) <;> (try simp only [Bool.not_eq_true', Bool.not_eq_false', decide_eq_true_eq, decide_eq_false_iff_not] at hb) <;> (try (exfalso; omega)))))
  all_goals first | exact ret1 [] (.bool (decide_eq_true (by omega)).symm) rfl rfl rfl | exact ret1 [] (.bool (decide_eq_false (by omega)).symm) rfl rfl rfl
/-- The end of the first k entries, by the last one. -/
def endR (l : List Ent) (k : Nat) : Int := if k = 0 then 21 else (l.getD (k - 1) e0).off + (l.getD (k - 1) e0).len
theorem endR_succ (l : List Ent) (k : Nat) : endR l (k + 1) = (l.getD k e0).off + (l.getD k e0).len := rfl
theorem endR_take (l : List Ent) (k : Nat) (h : k ≤ l.length) : endR (l.take k) k = endR l k := by
  unfold endR
  split
  · rfl
  · have : (l.take k).getD (k - 1) e0 = l.getD (k - 1) e0 := by simp [List.getElem?_take, show k - 1 < k by omega]
    rw [this]
theorem refEnd_m (l : List Ent) (h : I64 (endR l l.length)) (hl : l.length ≤ 140737488355328) : Meets Try.prog 108 [.r (.sl 5 (ents l))] [] (.r (.v (.int .i64 (endR l l.length)))) [] := by
  refine fn_of Try.func108 rfl (Nat.le_of_ble_eq_true rfl) rfl rfl ?_
  have hll := ents_len l
  rcases Nat.eq_zero_or_pos l.length with h0 | h0
  · rw [h0]
    (repeat' (first | (first | (refine is_move ?_; first | refine w_read rfl (.inl ⟨rfl, rfl⟩) q_2ce30 ?_) | (refine is_assign ?_; first | refine w_read rfl (.inl ⟨rfl, rfl⟩) q_732c1 ?_) | (refine is_load ?_; first | refine w_read rfl (.inl ⟨rfl, rfl⟩) q_98330 ?_) | (refine is_bin ?_; first | (refine is_b_add ?_; first | refine w_read rfl (.inl ⟨rfl, rfl⟩) (p_add rfl rfl q_cc899) ?_) | (refine is_b_sub ?_; first | refine w_read rfl (.inl ⟨rfl, rfl⟩) (p_sub rfl rfl q_cc899) ?_) | (refine is_b_eql ?_; first | (refine w_dec rfl (.inl ⟨rfl, rfl⟩) (p_eql rfl rfl) (fun hb => ?_) (fun hb => ?_) <;> (try (exfalso; omega))) | refine w_read rfl (.inl ⟨rfl, rfl⟩) (p_eqlb (by kernel_rfl) rfl rfl) ?_ | (refine w_dec rfl (.inl ⟨rfl, rfl⟩) (p_seql rfl rfl) (fun hb => ?_) (fun hb => ?_)) | (refine w_dec rfl (.inl ⟨rfl, rfl⟩) (p_eqag rfl rfl rfl rfl) (fun hb => ?_) (fun hb => ?_)))) | (refine is_call ?_; first | (refine is_c_len ?_; first | refine w_read rfl (.inl ⟨rfl, rfl⟩) q_e710b ?_)) | (refine is_iaddr ?_; first | refine w_read rfl (.inl ⟨rfl, rfl⟩) q_0ab11 ?_) | (refine is_faddr ?_; first | refine w_read rfl (.inl ⟨rfl, rfl⟩) q_26930 ?_)) | (first | refine awp_seq ?_ | refine thenA_ret ?_ | refine blockA_ret ?_ | refine awp_block ?_ | refine awp_text ?_ | refine awp_any (by kernel_rfl) ?_ | refine w_nilT ?_ | refine w_nil (by kernel_rfl) ?_ | refine awp_condT rfl ?_ | refine awp_condF rfl ?_ | refine awp_skip ?_ | refine awp_exit ?_ | refine awp_ret ?_) | (refine awp_cond rfl (fun hb => ?_) (fun hb => ?_) <;> (try simp only [Bool.not_eq_true', Bool.not_eq_false', decide_eq_true_eq, decide_eq_false_iff_not] at hb) <;> (try (exfalso; omega)))))
    all_goals exact ret1 [] (.r _) rfl rfl rfl
  · obtain ⟨k, hk⟩ : ∃ k, l.length = k + 1 := ⟨l.length - 1, by omega⟩
    have hg := ents_get (show k < l.length by omega)
    rw [hk, endR_succ] at h ⊢
    have hi : IntKind.i64.wrap (((ents l).length : Int) - 1) = (k : Int) := by rw [hll, hk, IntWalk.i64_in _ (by omega)]; omega
    have ha : IntKind.i64.wrap ((l.getD k e0).off + (l.getD k e0).len) = (l.getD k e0).off + (l.getD k e0).len := IntWalk.i64_in _ (by unfold I64 at h; omega)
    (repeat' (first | (first | (refine is_move ?_; first | refine w_read rfl (.inl ⟨rfl, rfl⟩) q_2ce30 ?_) | (refine is_assign ?_; first | refine w_read rfl (.inl ⟨rfl, rfl⟩) q_732c1 ?_) | (refine is_load ?_; first | refine w_read rfl (.inl ⟨rfl, rfl⟩) q_98330 ?_) | (refine is_bin ?_; first | (refine is_b_add ?_; first | refine w_read rfl (.inl ⟨rfl, rfl⟩) (p_add rfl rfl q_cc899) ?_) | (refine is_b_sub ?_; first | refine w_read rfl (.inl ⟨rfl, rfl⟩) (p_sub rfl rfl q_cc899) ?_) | (refine is_b_eql ?_; first | (refine w_dec rfl (.inl ⟨rfl, rfl⟩) (p_eql rfl rfl) (fun hb => ?_) (fun hb => ?_) <;> (try (exfalso; omega))) | refine w_read rfl (.inl ⟨rfl, rfl⟩) (p_eqlb (by kernel_rfl) rfl rfl) ?_ | (refine w_dec rfl (.inl ⟨rfl, rfl⟩) (p_seql rfl rfl) (fun hb => ?_) (fun hb => ?_)) | (refine w_dec rfl (.inl ⟨rfl, rfl⟩) (p_eqag rfl rfl rfl rfl) (fun hb => ?_) (fun hb => ?_)))) | (refine is_call ?_; first | (refine is_c_len ?_; first | refine w_read rfl (.inl ⟨rfl, rfl⟩) q_e710b ?_)) | (refine is_iaddr ?_; first | refine w_read rfl (.inl ⟨rfl, rfl⟩) q_0ab11 ?_) | (refine is_faddr ?_; first | refine w_read rfl (.inl ⟨rfl, rfl⟩) q_26930 ?_)) | (first | refine awp_seq ?_ | refine thenA_ret ?_ | refine blockA_ret ?_ | refine awp_block ?_ | refine awp_text ?_ | refine awp_any (by kernel_rfl) ?_ | refine w_nilT ?_ | refine w_nil (by kernel_rfl) ?_ | refine awp_condT rfl ?_ | refine awp_condF rfl ?_ | refine awp_skip ?_ | refine awp_exit ?_ | refine awp_ret ?_) | (refine awp_cond rfl (fun hb => ?_) (fun hb => ?_) <;> (try simp only [Bool.not_eq_true', Bool.not_eq_false', decide_eq_true_eq, decide_eq_false_iff_not] at hb) <;> (try (exfalso; omega)))))
    all_goals exact ret1 [] (.r _) rfl rfl rfl
/-- Entry k is as it ought to be. -/
def okE (l : List Ent) (k : Nat) : Prop :=
  (l.getD k e0).off = endR l k ∧ (13 ≤ (l.getD k e0).len ∧ (l.getD k e0).len ≤ 4194317 ∧ 1 ≤ (l.getD k e0).cnt ∧ (l.getD k e0).cnt ≤ 4096) ∧ (l.getD k e0).fst ≤ (l.getD k e0).lst ∧ (k = 0 ∨ (l.getD (k - 1) e0).lst < (l.getD k e0).fst) ∧ endR l (k + 1) ≤ 1073741824
instance (l : List Ent) (k : Nat) : Decidable (okE l k) := by unfold okE; infer_instance
def vE (l : List Ent) : Bool := decide (l.length ≤ 65536) && allR l.length fun k => decide (okE l k)
theorem vE_big {l : List Ent} (h : 65536 < l.length) : false = vE l := by unfold vE; rw [decide_eq_false (by omega)]; rfl
theorem vE_no {l : List Ent} (h : l.length ≤ 65536) (k : Nat) (hk : k < l.length) (hn : ¬ okE l k) : false = vE l := by
  unfold vE; rw [decide_eq_true h, ← allR_false k hk (decide_eq_false hn)]; rfl
theorem vE_yes {l : List Ent} (h : l.length ≤ 65536) (hn : ∀ k, k < l.length → okE l k) : true = vE l := by
  unfold vE; rw [decide_eq_true h, ← allR_true fun k hk => decide_eq_true (hn k hk)]; rfl
theorem vE_of {l : List Ent} (h : vE l = true) : l.length ≤ 65536 ∧ ∀ k, k < l.length → okE l k := by
  unfold vE allR at h
  simp only [Bool.and_eq_true, decide_eq_true_eq, List.all_eq_true, List.mem_range] at h
  exact h
/-- What is known behind the first k entries. -/
def okI (l : List Ent) (k : Nat) : Prop := k ≤ l.length ∧ (∀ i, i < k → okE l i) ∧ 21 ≤ endR l k ∧ endR l k ≤ 1073741824
theorem okI_zero (l : List Ent) : okI l 0 := ⟨Nat.zero_le _, fun i h => by omega, by unfold endR; simp, by unfold endR; simp⟩
theorem okI_succ {l : List Ent} {k : Nat} (h : okI l k) (hk : k < l.length) (ho : okE l k) : okI l (k + 1) := by
  obtain ⟨h1, h2, h3, h4⟩ := h
  refine ⟨hk, fun i hi => if e : i < k then h2 i e else (show i = k by omega) ▸ ho, ?_, ho.2.2.2.2⟩
  have h5 := ho.1
  have h6 := ho.2.1
  rw [endR_succ]
  omega
end Go.Proofs.Ytabgmodllifgjaa
