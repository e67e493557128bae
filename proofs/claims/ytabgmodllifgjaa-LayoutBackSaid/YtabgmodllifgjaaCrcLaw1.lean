/- The walk of the law CrcTable. No conditions. -/
import Derived.Test.YtabgmodllifgjaaCrc2
namespace Go.Proofs.Ytabgmodllifgjaa
open Go.RowKit
set_option maxRecDepth 100000
set_option linter.unusedVariables false

def digits : List UInt8 := [49, 50, 51, 52, 53, 54, 55, 56, 57]
theorem digits_crc : Crc.crc 0 digits = 3808858755 := by decide +kernel

/-- A literal's row with the mark that a conversion of a constant string leaves. -/
theorem Rd.lit (w : World) (C : Array Value) (fr : Nat × Nat) (l : List UInt8) (h : C.toList = bv l) : Rd (w.alloc (.cells C 5 fr)) 1 (some ⟨w.heap.size, 0, none⟩) l.length (bv l) := by
  refine ⟨by rw [bv_len]; omega, fun _ => ⟨_, rfl, fun j u hu => ?_⟩⟩
  have : (⟨w.heap.size, 0, none⟩ : Addr).add j = ⟨w.heap.size, j, none⟩ := by unfold Addr.add; split <;> simp_all
  rw [this, cell_of_row _ _ _ _ _ _ (heap_alloc_new w _)]
  rw [← h] at hu
  simpa using hu
def digitCells : Array Value := #[.int .u8 49, .int .u8 50, .int .u8 51, .int .u8 52, .int .u8 53, .int .u8 54, .int .u8 55, .int .u8 56, .int .u8 57]

set_option maxHeartbeats 400000 in
theorem known_any (w : World) :
    Calls Try.prog 23 #[] w fun e w' => e = .returned (.bool true) ∧ Below w.heap.size w w' := by
  have hS := Rd.lit w digitCells (9, 10) digits rfl
  have hb0 : Below w.heap.size w (w.alloc (.cells digitCells 5 (9, 10))) := (Below.refl _ _).alloc (Nat.le_refl _) _
  go_enter Try.func23, Try.ntmps23
  go_wp2_with fail
  refine (sum_any digits _ 9 9 _ hS (by simp [maxLen])).mono ?_
  rintro e w1 ⟨rfl, hb1⟩
  rw [digits_crc]
  go_wp2_with fail
  refine (check_any [] _ 0 0 _ Rd.nil (Nat.le_refl _) (by simp [maxLen])).mono ?_
  rintro e w2 ⟨rfl, hb2⟩
  have hc : chk [] = false := rfl
  go_wp2_with fail
  go_ret
  have h1 := hb0.trans (hb1.mono hb0.size)
  exact ⟨rfl, h1.trans (hb2.mono h1.size)⟩

theorem tab_eq (w : World) : (binOp .eql 23 (.agg tabv) (.agg tabv)).run Try.prog w = .ok (.bool true) w := by
  kernel_rfl
theorem tab_guard (w : World) (x y : Operand) : (eqGuard .eql 23 x y (.agg tabv) (.agg tabv)).run Try.prog w = .ok () w := by
  kernel_rfl

def CrcTableF (i : UInt8) : List (Tmp × (Value → World → Prop)) :=
  [(14, fun v _ => v = .bool true), (17, fun v _ => v = .agg tabv), (22, IsRd [i]), (23, fun v _ => v = .int .u32 (Crc.crc 0 [i]))]
theorem CrcTableF.st (i : UInt8) : ∀ p ∈ CrcTableF i, Stable (fun _ => False) p.2 := by
  simp only [CrcTableF, List.mem_cons, List.not_mem_nil, or_false, forall_eq_or_imp, forall_eq]
  exact ⟨Stable.const _, Stable.const _, IsRd.stable _, Stable.const _⟩

set_option maxHeartbeats 400000 in
theorem crcTable_walk (i b : UInt8) (w : World) :
    Calls Try.prog 3 #[.int .u8 i.toNat, .int .u8 b.toNat] w fun e w' => e = .returned (.bool true) ∧ Below w.heap.size w w' := by
  have hi := i.toNat_lt
  have hb := b.toNat_lt
  have hxi := u8_xor_nat 255 i.toNat (by omega) hi
  have hzl : 255 ^^^ i.toNat < 256 := Crc.xor_lt256 (by omega) hi
  have hx0 : bits .xor .u8 255 (i.toNat : Int) = ((255 ^^^ i.toNat : Nat) : Int) := hxi
  clear hxi
  have HX : Hid (∃ z, z = 255 ^^^ i.toNat) := Lib.hid ⟨_, rfl⟩
  generalize hz : 255 ^^^ i.toNat = z at *
  have HZ := Lib.hid hz
  clear hz
  have hel := Crc.el_lt (x := z) (by omega)
  have hy0 := u32_xor_nat (Crc.el z) 16777215 hel (by omega)
  have hy : bits .xor .u32 (Crc.el z : Int) 16777215 = ((Crc.el z ^^^ 16777215 : Nat) : Int) := hy0
  clear hy0
  have hyl := Crc.xor_lt hel (show 16777215 < 4294967296 by omega)
  have hsg := sg32
  have hn := b_not32 _ hyl
  go_enter Try.func3, Try.ntmps3
  have hT : ∀ j, j < 256 → tabv[j]? = some (.int .u32 (Crc.el j)) := tabv_get
  go_wp2_with (first | (go_at_call 22; refine (table_any _).mono ?_; rintro e w1 ⟨rfl, hb1⟩) | (refine wpList_store_row rfl 23 _ _ rfl w1.heap.size tabv rfl rfl 23 _ (heap_alloc_new _ _) (by rw [tabv_size]; exact info23) (zero23s.trans tabv_size.symm) tabv_one ?_; rw [table_blk]))
  have hb2 : Below w.heap.size w (w1.alloc (.cells tabv 23)) := hb1.alloc hb1.size _
  generalize hw2 : w1.alloc (.cells tabv 23) = w2 at *
  have hg : w2.heap[w1.heap.size]? = some (.cells tabv 23 (0, 0)) := by rw [← hw2]; exact heap_alloc_new _ _
  have hlt : w1.heap.size < w2.heap.size := by rw [← hw2]; simp
  clear hw2
  have hd1 : ∀ d : BelM (fun _ => False) w2, ∀ j, j < 256 → d.1.cell? ⟨w1.heap.size, j, none⟩ = some (.int .u32 (Crc.el j)) := fun d j hj => by
    rw [cell_of_row _ _ _ _ _ _ ((d.2.block _ hlt id).trans hg)]; exact tabv_get j hj
  have hd2 : ∀ d : BelM (fun _ => False) w2, d.1.heap[w1.heap.size]? = some (.cells tabv 23 (0, 0)) := fun d => (d.2.block _ hlt id).trans hg
  refine wp_region_rel (by kernel_rfl) (fun _ => False) [14, 17, 22, 23] (Fof (CrcTableF i)) (by kernel_rfl) (by kernel_rfl) (Stable.fof (CrcTableF.st i)) (by simp) ?_
  (refine wpRel_fixed (.bool true) rfl rfl (by decide) (fun _ _ h => h) (fun wq hbq hkq => relUpon_enter (f := 23) (args := #[]) (by simp [go_sem]) (calls_fixed (known_any _) fun _ => rfl)) ?_; simp only [Act.put, List.setIfInBounds_toArray, List.set_cons_succ, List.set_cons_zero])
  (refine wpRel_seg 2 (by kernel_rfl) ?_; simp only [List.take_succ_cons, List.take_zero])
  go_big_quiet_step (fail)
  refine wpQuiet_value (.agg tabv) rfl (fun wq ⟨d, hd⟩ => ?_) ?_
  · subst hd
    exact exec_load_row 23 _ rfl w1.heap.size rfl 23 tabv _ _ (hd2 d) Try.underlying23 rfl (by rw [tabv_size]; exact info23)
  simp only [Act.put, List.setIfInBounds_toArray, List.set_cons_succ, List.set_cons_zero]
  ((repeat (go_big_quiet_step (fail))); refine wpQuiet_nil ?_; simp only [List.drop_succ_cons, List.drop_zero])
  (refine wpRel_fixed (.agg tabv) rfl rfl (by decide) (fun _ _ h => h) (fun wq hbq hkq => relUpon_enter (f := 24) (args := #[]) (by simp [go_sem]) (calls_fixed (refTable_any _) fun _ => rfl)) ?_; simp only [Act.put, List.setIfInBounds_toArray, List.set_cons_succ, List.set_cons_zero])
  have he1 := tab_eq
  have he2 := tab_guard
  (refine wpRel_seg 4 (by kernel_rfl) ?_; simp only [List.take_succ_cons, List.take_zero]; (repeat (go_big_quiet_step (fail))); refine wpQuiet_nil ?_; simp only [List.drop_succ_cons, List.drop_zero])
  refine wpRel_slot (d := 22) rfl rfl (by decide) (fun wq hbq hkq => ?_) ?_
  · refine relUpon_val (v := .slice (some ⟨wq.heap.size, 0, none⟩) 1 1) (w' := wq.alloc (.cells #[.int .u8 i.toNat] 5)) (by simp [go_sem]) ((Upto.refl _).alloc _) ?_
    have h1 := Rd.one wq (i.toNat : Int) (by omega) (by omega)
    simp only [Int.toNat_natCast, UInt8.ofNat_toNat] at h1
    exact ⟨_, 1, rfl, Nat.le_refl _, h1⟩
  rintro v ⟨wv, _, A, c, rfl, _, _⟩
  simp only [Act.put, List.setIfInBounds_toArray, List.set_cons_succ, List.set_cons_zero]
  (refine wpRel_fixed (.int .u32 (Crc.crc 0 [i])) rfl rfl (by decide) (fun _ _ h => h) (fun wq hbq hkq => relUpon_enter (f := 25) (args := #[.slice A 1 c]) (by simp [go_sem]) (calls_fixed (sum_any [i] A 1 c _ (IsRd.rd (hkq 22 (by decide) (by decide))).1 (by simp [maxLen])) fun _ => rfl)) ?_; simp only [Act.put, List.setIfInBounds_toArray, List.set_cons_succ, List.set_cons_zero])
  have hst : Crc.crc 0 [i] = 4294967295 - (Crc.el z ^^^ 16777215) := by
    have h1 := Crc.up_alt 4294967295 i.toNat hi
    show 4294967295 - Crc.up (4294967295 - 0) i.toNat = _
    rw [Nat.sub_zero, h1, ← HZ.out]
  have hq1 : ((Crc.crc 0 [i] : Int) == ((4294967295 - (Crc.el z ^^^ 16777215) : Nat) : Int)) = true := by rw [hst]; simp
  have HST := Lib.hid hst
  clear hst
  have hbi := Crc.el_lt (x := i.toNat) (by omega)
  have hbb := Crc.el_lt (x := b.toNat) (by omega)
  have hxx := b_xor (Crc.el i.toNat) (Crc.el b.toNat) hbi hbb
  have hx8 := u8_xor_nat i.toNat b.toNat hi hb
  have hl8 := Crc.xor_lt256 hi hb
  have hq2 : (((Crc.el i.toNat ^^^ Crc.el b.toNat : Nat) : Int) == (Crc.el (i.toNat ^^^ b.toNat) : Int)) = true := by rw [Crc.el_xor]; simp
  have hT1 : ∀ d : BelM (fun _ => False) w2, d.1.cell? ⟨w1.heap.size, i.toNat, none⟩ = some (.int .u32 (Crc.el i.toNat)) := fun d => hd1 d _ hi
  have hT2 : ∀ d : BelM (fun _ => False) w2, d.1.cell? ⟨w1.heap.size, b.toNat, none⟩ = some (.int .u32 (Crc.el b.toNat)) := fun d => hd1 d _ hb
  have hT3 : ∀ d : BelM (fun _ => False) w2, d.1.cell? ⟨w1.heap.size, i.toNat ^^^ b.toNat, none⟩ = some (.int .u32 (Crc.el (i.toNat ^^^ b.toNat))) := fun d => hd1 d _ hl8
  (refine wpRel_seg 19 (by kernel_rfl) ?_; simp only [List.take_succ_cons, List.take_zero]; (repeat (go_big_quiet_step (fail))); refine wpQuiet_nil ?_; simp only [List.drop_succ_cons, List.drop_zero])
  refine wpRel_nil ?_
  intro w' hb' _
  go_wp2
  go_ret
  exact ⟨rfl, hb2.trans (hb'.to_below.mono hb2.size)⟩

theorem u8_of {x : Int} (h : (Lit.int .u8 x).wf = true) : ∃ b : UInt8, x = b.toNat :=
  ⟨UInt8.ofNat x.toNat, by have := wf_u8 h; rw [UInt8.toNat_ofNat']; omega⟩
theorem crcTable_law (a0 a1 : Int) (w : World) (w0 : (Lit.int .u8 a0).wf = true) (w1 : (Lit.int .u8 a1).wf = true) :
    Calls Try.prog 3 #[.int .u8 a0, .int .u8 a1] w fun e w' => e = .returned (.bool true) ∧ Below w.heap.size w w' := by
  obtain ⟨i, rfl⟩ := u8_of w0
  obtain ⟨b, rfl⟩ := u8_of w1
  exact crcTable_walk i b w
end Go.Proofs.Ytabgmodllifgjaa
