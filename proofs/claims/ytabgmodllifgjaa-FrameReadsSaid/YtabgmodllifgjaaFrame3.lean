/- The contract of the reference's Decode (chapter 07). Conditions: at most 2^47 - 64 bytes. -/
import Derived.Test.YtabgmodllifgjaaFrame2
import Derived.ArgAppend
namespace Go.Proofs.Ytabgmodllifgjaa
open Go.RowKit
set_option maxRecDepth 100000
set_option linter.unusedVariables false

/-- An append onto an empty row without room: nothing of what there is turns. -/
theorem run_append_empty (w : World) (b : Nat) (base : Nat) (hown : Own w base (.slice (some ⟨b, 0, none⟩) 0 0) []) (A : Option Addr) (n c : Nat) (news : List UInt8) (hr : Rd w 1 A n (bv news)) (hlen : news.length ≤ 211106232532992) (hbase : base ≤ w.heap.size) (ty : TypeId) :
    ∃ v' w', (Builtin.append_ #[27, 27] ty #[.slice (some ⟨b, 0, none⟩) 0 0, .slice A n c]).run Try.prog w = .ok v' w' ∧ Below w.heap.size w w' ∧ Own w' base v' news := by
  have hn := hr.len
  subst hn
  obtain ⟨i, hi, hz, hs, hby⟩ := info_parts info_u8
  have ht := Try.underlying27
  rcases Nat.eq_zero_or_pos news.length with h0 | h0
  · have e0 := List.eq_nil_of_length_eq_zero h0
    subst e0
    obtain ⟨v', w', h1, h2, h3, _⟩ := run_append_rd w base _ [] hown A c [] hr (by simp) hbase ty
    have : (Builtin.append_ #[27, 27] ty #[.slice (some ⟨b, 0, none⟩) 0 0, .slice A 0 c]).run Try.prog w = .ok (.slice (some ⟨b, 0, none⟩) 0 0) w := by
      cases A <;> simp [Builtin.append_, run_underlying ht, sizeOf, typeInfo, hi, Builtin.lenOf, Builtin.firstCells, storeCells, loadCells, loadCellsFrom]
    exact ⟨_, _, this, Below.refl _ _, hown⟩
  · obtain ⟨ad, rfl, hc⟩ := hr.2 h0
    obtain ⟨v', w', h1, h2, h3⟩ := Go.Ab.run_append_arg_wide (P := Try.prog) w 27 ty 5 i _ 1 1 ht hi hz hs hby rfl (by omega) ⟨b, 0, none⟩ 0 0 [] rfl (by simp) ad news.length c (bv news) (by rw [bv_len]; omega) hc (by omega) (by unfold maxLen; omega) (by omega)
    refine ⟨v', w', h1, below_of_grown h3, ?_⟩
    have h2' : Own w' w.heap.size v' news := by
      unfold Own
      simpa using h2
    exact h2'.mono hbase

def RefDecF (g : Nat) (k : UInt8) (p : List UInt8) : List (Tmp × (Value → World → Prop)) :=
  [(63, fun v w' => ∃ b, v = .slice (some ⟨b, 0, none⟩) 0 0 ∧ Own w' (g + 1) v []), (70, fun v w' => Own w' (g + 1) v p), (71, fun v w' => ∃ u, v = .agg #[.int .u8 k.toNat, u] ∧ Own w' (g + 1) u p)]
theorem RefDecF.steps (g : Nat) (k : UInt8) (p : List UInt8) : Steps (DecV g k p) (fun _ => Upto fun _ => False) (fun b => b = g) (Fof (RefDecF g k p)) := by
  have hO : ∀ {l v w w'}, Own w (g + 1) v l → Upto (fun b => b = g) w w' → Own w' (g + 1) v l := fun h hU => h.upto hU fun q hq he => by have := (h.ownBlock q hq).1; omega
  refine ⟨(DecV.steps g k p).v, fun t v w w' hF hU => ?_⟩
  refine Stable.fof (M := fun b => b = g) ?_ t v w w' hF hU
  intro p hp
  simp only [RefDecF, List.mem_cons, List.not_mem_nil, or_false] at hp
  rcases hp with rfl | rfl | rfl
  · exact fun v w w' ⟨b, e, h⟩ hU => ⟨b, e, hO h hU⟩
  · exact fun v w w' h hU => hO h hU
  · exact fun v w w' ⟨u, e, h⟩ hU => ⟨u, e, hO h hU⟩
theorem exec_append {P : Program} {o : Oper} {a : Act} {w w' : World} {v' vs vx : Value} (s x : Operand) (t tn : TypeId) (ho : o.op = .call { callee := .builtin .append, args := #[s, x], argTypes := #[t, tn] })
    (hs : a.eval s = vs) (hx : a.eval x = vx) (hr : (Builtin.append_ #[t, tn] o.type #[vs, vx]).run P w = .ok v' w') : (execOp a.eval o).run P w = .ok (.value v') w' := by
  unfold execOp
  simp only [ho, resolve, invoke, builtin, Sem.run_bind, Sem.run_pure, Result.andThen_ok, List.map_toArray, List.map_cons, List.map_nil, hs, hx, hr]

set_option maxHeartbeats 1000000 in
theorem refFrameDecode_range (l : List UInt8) (A : Option Addr) (n c : Nat) (a : Int) (w : World) (h : Rd w 1 A n (bv l)) (hc : n ≤ c) (hl : l.length ≤ 211106232532992) (ha : a < 0 ∨ (l.length : Int) < a) :
    Calls Try.prog 107 #[.slice A n c, .int .i64 a] w (DecPost w 0 [] 0 2) := by
  have hn := h.len
  subst hn
  go_enter Try.func107, Try.ntmps107
  rcases (show a < 0 ∨ (¬ a < 0 ∧ (l.length : Int) < a) by omega) with h1 | ⟨h1, h2⟩
  · go_wp2_with fail
    refine bodyPost_ret (results_cell_row3 rfl _ _ w.heap.size 89 _ (0, 0) _ rfl (heap_alloc2_old _ _ _) Try.underlying89 rfl (by kernel_rfl)) rfl ⟨_, rfl, IsRd.mk_ Rd.nil (Nat.le_refl _), ((Below.refl _ _).alloc (Nat.le_refl _) _).alloc (by simp) _⟩
  · go_wp2_with fail
    refine bodyPost_ret (results_cell_row3 rfl _ _ w.heap.size 89 _ (0, 0) _ rfl (heap_alloc2_old _ _ _) Try.underlying89 rfl (by kernel_rfl)) rfl ⟨_, rfl, IsRd.mk_ Rd.nil (Nat.le_refl _), ((Below.refl _ _).alloc (Nat.le_refl _) _).alloc (by simp) _⟩

set_option maxHeartbeats 1000000 in
theorem refFrameDecode_any (l : List UInt8) (A : Option Addr) (n c k : Nat) (w : World) (h : Rd w 1 A n (bv l)) (hc : n ≤ c) (hl : l.length ≤ 211106232532992) (hk : k ≤ l.length) :
    Calls Try.prog 107 #[.slice A n c, .int .i64 k] w (DecPost w (decR (l.drop k)).1 (decR (l.drop k)).2.1 (decN k (decR (l.drop k))) (decR (l.drop k)).2.2.2) := by
  have hn := h.len
  subst hn
  have hrl : (l.drop k).length = l.length - k := by simp
  have hk0 : ¬ (k : Int) < 0 := by omega
  have hk1 : ¬ (l.length : Int) < (k : Int) := by omega
  have hkc : (k : Int) ≤ (l.length : Int) := by omega
  have hws : IntKind.i64.wrap ((l.length : Int) - (k : Int)) = (l.length : Int) - (k : Int) := IntWalk.i64_in _ (by omega)
  have HR := Lib.hid hrl
  clear hrl
  go_enter Try.func107, Try.ntmps107
  by_cases h9 : l.length - k < 9
  · have h9' : (l.length : Int) - (k : Int) < 9 := by omega
    have hd : decR (l.drop k) = (0, [], 0, 4) := by unfold decR; rw [HR.out, if_pos h9]
    rw [hd]
    go_wp2_with fail
    all_goals exact bodyPost_ret (results_cell_row3 rfl _ _ w.heap.size 89 _ (0, 0) _ rfl (heap_alloc2_old _ _ _) Try.underlying89 rfl (by kernel_rfl)) rfl ⟨_, rfl, IsRd.mk_ Rd.nil (Nat.le_refl _), ((Below.refl _ _).alloc (Nat.le_refl _) _).alloc (by simp) _⟩
  · have h9' : ¬ (l.length : Int) - (k : Int) < 9 := by omega
    have hck : ¬ c = k := by omega
    obtain ⟨ad, rfl, _⟩ := h.2 (by omega)
    have hw9 : IntKind.i64.wrap ((k : Int) + 9) = (k : Int) + 9 := IntWalk.i64_in _ (by omega)
    go_wp2_with fail
    have hb1 : Below w.heap.size w ((w.alloc (.cells #[.int .u8 0, .slice none 0 0] 89)).alloc (.cells #[.int .u8 0, .slice none 0 0] 89)) := ((Below.refl _ _).alloc (Nat.le_refl _) _).alloc (by simp) _
    have hg1 := heap_alloc2_old w (.cells #[.int .u8 0, .slice none 0 0] 89) (.cells #[.int .u8 0, .slice none 0 0] 89)
    have hn1 := heap_alloc2_new w (.cells #[.int .u8 0, .slice none 0 0] 89) (.cells #[.int .u8 0, .slice none 0 0] 89)
    generalize (w.alloc (.cells #[.int .u8 0, .slice none 0 0] 89)).alloc (.cells #[.int .u8 0, .slice none 0 0] 89) = w1 at *
    have h1 := h.below hb1
    have hA1 : Rd w1 1 (some (ad.add k)) 9 (bv ((l.drop k).take 9)) := by
      have := h1.mid k (k + 9) (by omega) (by omega)
      have e : k + 9 - k = 9 := by omega
      rw [e] at this
      exact this
    refine (refCheck_any ((l.drop k).take 9) (some (ad.add k)) 9 (c - k) w1 hA1 (by omega) (by omega)).mono ?_
    rintro e w2 ⟨rfl, hb2⟩
    have hlt1 := heap_lt hg1
    have hltn := heap_lt hn1
    have hg2 := (hb2.block _ hlt1).trans hg1
    have hn2 := (hb2.block _ hltn).trans hn1
    have h2 := h1.below hb2
    have hbb2 := hb1.trans (hb2.mono hb1.size)
    clear hA1
    have HRR : Hid (∃ r, r = l.drop k) := Lib.hid ⟨_, rfl⟩
    have hdd : ∀ j, l.drop (k + j) = (l.drop k).drop j := fun j => by rw [List.drop_drop]
    generalize hr : l.drop k = r at *
    have HDD := Lib.hid hdd
    have hRm : r.length = l.length - k := HR.out
    have HRM := Lib.hid hRm
    have hm9 : k + 9 ≤ l.length := by omega
    clear hRm h9 h9' hdd
    cases hck0 : chk (r.take 9)
    · have hd : decR r = (0, [], 0, 6) := by unfold decR; rw [if_neg (by have := HRM.out; omega), if_pos hck0]
      have HD := Lib.hid hd
      clear hd hr
      go_wp2_with (first | (refine wpList_load_row rfl 89 (.tmp 7) rfl (w.heap.size + 1) rfl 89 #[.int .u8 0, .slice none 0 0] (0, 0) _ hn2 Try.underlying89 rfl (by kernel_rfl) ?_) | (refine wpList_store_row rfl 89 (.tmp 4) (.tmp 33) rfl w.heap.size #[.int .u8 0, .slice none 0 0] rfl rfl 89 _ hg2 (by kernel_rfl) rfl (by kernel_rfl) ?_))
      (try simp only [Exit.inBlock, Exit.then])
      rw [HD.out]
      exact bodyPost_ret (results_cell_row3 rfl _ _ w.heap.size 89 _ (0, 0) _ rfl (setRow_heap _ _ _ _ _ _ hg2) Try.underlying89 rfl (by kernel_rfl)) rfl ⟨_, rfl, IsRd.mk_ Rd.nil (Nat.le_refl _), below_setRow hbb2 (Nat.le_refl _) _⟩
    · have hw1 : IntKind.i64.wrap ((k : Int) + 1) = (k : Int) + 1 := IntWalk.i64_in _ (by omega)
      go_wp2_with fail
      refine (refValue_any l _ _ _ (k + 1) 4 _ (by push_cast; rfl) w2 h2 (by omega) (by omega) (by omega)).mono ?_
      rintro e w3 ⟨rfl, rfl⟩
      rw [HDD.out 1]
      have hn32 : val ((r.drop 1).take 4) < 4294967296 := by
        have := val_lt ((r.drop 1).take 4)
        have h4 : ((r.drop 1).take 4).length = 4 := by simp; have := HRM.out; omega
        rw [h4] at this
        exact this
      generalize hq : val ((r.drop 1).take 4) = q at *
      have HQ := Lib.hid hq
      clear hq
      have hwq : IntKind.i64.wrap (q : Int) = (q : Int) := IntWalk.i64_in _ (by omega)
      by_cases hbig : 4194304 < q
      · have hd : decR r = (0, [], 0, 3) := by unfold decR; rw [if_neg (by have := HRM.out; omega), if_neg (by rw [hck0]; simp), if_pos (by rw [HQ.out]; exact hbig)]
        have HD := Lib.hid hd
        clear hd hr
        have hb' : (4194304 : Int) < (q : Int) := by omega
        go_wp2_with (first | (refine wpList_load_row rfl 89 (.tmp 7) rfl (w.heap.size + 1) rfl 89 #[.int .u8 0, .slice none 0 0] (0, 0) _ hn2 Try.underlying89 rfl (by kernel_rfl) ?_) | (refine wpList_store_row rfl 89 (.tmp 4) (.tmp 41) rfl w.heap.size #[.int .u8 0, .slice none 0 0] rfl rfl 89 _ hg2 (by kernel_rfl) rfl (by kernel_rfl) ?_))
        (try simp only [Exit.inBlock, Exit.then])
        rw [HD.out]
        exact bodyPost_ret (results_cell_row3 rfl _ _ w.heap.size 89 _ (0, 0) _ rfl (setRow_heap _ _ _ _ _ _ hg2) Try.underlying89 rfl (by kernel_rfl)) rfl ⟨_, rfl, IsRd.mk_ Rd.nil (Nat.le_refl _), below_setRow hbb2 (Nat.le_refl _) _⟩
      · have hb' : ¬ (4194304 : Int) < (q : Int) := by omega
        have hw2 : IntKind.i64.wrap ((k : Int) + 13) = (k : Int) + 13 := IntWalk.i64_in _ (by omega)
        have hw3 : IntKind.i64.wrap ((k : Int) + 13 + (q : Int)) = (k : Int) + 13 + (q : Int) := IntWalk.i64_in _ (by omega)
        by_cases hend : r.length < q + 13
        · have hd : decR r = (0, [], 0, 4) := by unfold decR; rw [if_neg (by have := HRM.out; omega), if_neg (by rw [hck0]; simp), if_neg (by rw [HQ.out]; exact hbig), if_pos (by rw [HQ.out]; exact hend)]
          have HD := Lib.hid hd
          clear hd hr
          have he' : (l.length : Int) < (k : Int) + 13 + (q : Int) := by have := HRM.out; omega
          go_wp2_with (first | (refine wpList_load_row rfl 89 (.tmp 7) rfl (w.heap.size + 1) rfl 89 #[.int .u8 0, .slice none 0 0] (0, 0) _ hn2 Try.underlying89 rfl (by kernel_rfl) ?_) | (refine wpList_store_row rfl 89 (.tmp 4) (.tmp 50) rfl w.heap.size #[.int .u8 0, .slice none 0 0] rfl rfl 89 _ hg2 (by kernel_rfl) rfl (by kernel_rfl) ?_))
          (try simp only [Exit.inBlock, Exit.then])
          rw [HD.out]
          exact bodyPost_ret (results_cell_row3 rfl _ _ w.heap.size 89 _ (0, 0) _ rfl (setRow_heap _ _ _ _ _ _ hg2) Try.underlying89 rfl (by kernel_rfl)) rfl ⟨_, rfl, IsRd.mk_ Rd.nil (Nat.le_refl _), below_setRow hbb2 (Nat.le_refl _) _⟩
        · have he' : ¬ (l.length : Int) < (k : Int) + 13 + (q : Int) := by have := HRM.out; omega
          have hml : k + 13 + q ≤ l.length := by have := HRM.out; omega
          go_wp2_with fail
          have hM := h2.mid (k + 9) (k + 13 + q) (by omega) (by omega)
          have e1 : k + 13 + q - (k + 9) = q + 4 := by omega
          rw [e1, HDD.out 9] at hM
          rw [e1]
          refine (refCheck_any ((r.drop 9).take (q + 4)) _ _ _ w2 hM (by omega) (by omega)).mono ?_
          rintro e w3 ⟨rfl, hb3⟩
          have hlt2 := heap_lt hg2
          have hg3 := (hb3.block _ hlt2).trans hg2
          have hn3 := (hb3.block _ (heap_lt hn2)).trans hn2
          have h3 := h2.below hb3
          have hbb3 := hbb2.trans (hb3.mono hbb2.size)
          cases hck2 : chk ((r.drop 9).take (q + 4))
          · have hd : decR r = (0, [], 0, 6) := by unfold decR; rw [if_neg (by have := HRM.out; omega), if_neg (by rw [hck0]; simp), if_neg (by rw [HQ.out]; exact hbig), if_neg (by rw [HQ.out]; exact hend), if_pos (by rw [HQ.out]; exact hck2)]
            have HD := Lib.hid hd
            clear hd hr
            go_wp2_with (first | (refine wpList_load_row rfl 89 (.tmp 7) rfl (w.heap.size + 1) rfl 89 #[.int .u8 0, .slice none 0 0] (0, 0) _ hn3 Try.underlying89 rfl (by kernel_rfl) ?_) | (refine wpList_store_row rfl 89 (.tmp 4) (.tmp 58) rfl w.heap.size #[.int .u8 0, .slice none 0 0] rfl rfl 89 _ hg3 (by kernel_rfl) rfl (by kernel_rfl) ?_))
            (try simp only [Exit.inBlock, Exit.then])
            rw [HD.out]
            exact bodyPost_ret (results_cell_row3 rfl _ _ w.heap.size 89 _ (0, 0) _ rfl (setRow_heap _ _ _ _ _ _ hg3) Try.underlying89 rfl (by kernel_rfl)) rfl ⟨_, rfl, IsRd.mk_ Rd.nil (Nat.le_refl _), below_setRow hbb3 (Nat.le_refl _) _⟩
          · have hd : decR r = (r.headD 0, (r.drop 9).take q, q + 13, 0) := by unfold decR; rw [if_neg (by have := HRM.out; omega), if_neg (by rw [hck0]; simp), if_neg (by rw [HQ.out]; exact hbig), if_neg (by rw [HQ.out]; exact hend), if_neg (by rw [HQ.out, hck2]; simp), HQ.out]
            have HD := Lib.hid hd
            clear hd
            have hBlt : ad.block < w.heap.size := by
              obtain ⟨B', e, hcc⟩ := h.2 (by omega)
              injection e with e
              subst e
              have h0 := block_lt_of_cell (hcc 0 _ (bv_get l 0 (by omega)))
              rwa [add_block] at h0
            obtain ⟨B', hr0, e0, hc0⟩ := h3.byte (k := k) (by omega)
            injection e0 with e0
            subst e0
            have hhd : l[k] = r.headD 0 := by
              rw [← hr]
              rw [List.headD_eq_head?_getD, List.head?_drop, List.getElem?_eq_getElem hr0]
              rfl
            rw [hhd] at hc0
            clear hhd hr
            generalize r.headD 0 = r0 at *
            have hMB : ¬ ad.block = w.heap.size := by omega
            have hMB' : ¬ (ad.add k).block = w.heap.size := by rw [add_block]; exact hMB
            have hd0 : ∀ d : BelM (fun b => b = w.heap.size) w3, d.1.cell? (ad.add k) = some (.int .u8 r0.toNat) := fun d => BelM.cell d hc0 hMB'
            have hP : Rd w3 1 (some (ad.add (k + 9))) q (bv ((r.drop 9).take q)) := by
              have := h3.mid (k + 9) (k + 9 + q) (by omega) (by omega)
              have e : k + 9 + q - (k + 9) = q := by omega
              rw [e, HDD.out 9] at this
              exact this
            have hpl : ((r.drop 9).take q).length = q := by have := HRM.out; simp; omega
            generalize (r.drop 9).take q = pl at *
            have HPL := Lib.hid hpl
            clear hpl
            have hw9 : IntKind.i64.wrap ((k : Int) + 9) = (k : Int) + 9 := IntWalk.i64_in _ (by omega)
            have hw4 : IntKind.i64.wrap ((k : Int) + 13 + (q : Int) - 4) = (k : Int) + 9 + (q : Int) := by rw [show ((k : Int) + 13 + (q : Int) - 4) = (k : Int) + 9 + (q : Int) by omega]; exact IntWalk.i64_in _ (by omega)
            go_wp2_with fail
            refine wp_region_rel_tailV (V := DecV w.heap.size r0 pl) (St := fun _ => Upto fun _ => False) 15 (by kernel_rfl) (fun b => b = w.heap.size) [63, 70, 71] (Fof (RefDecF w.heap.size r0 pl))
              (by kernel_rfl) (by kernel_rfl) (by kernel_rfl) (RefDecF.steps _ _ _) hg3 (fun _ _ _ h => h.mono fun _ h => h.elim) (fun t d v wa wb _ hF hU => (RefDecF.steps w.heap.size r0 pl).store t v wa wb hF (hU.mono fun _ h => h.elim)) (by simp) ?_
            simp only [List.take_succ_cons, List.take_zero, List.drop_succ_cons, List.drop_zero]
            (refine wpRel_seg 4 (by kernel_rfl) ?_; simp only [List.take_succ_cons, List.take_zero]; (repeat (go_big_quiet_step (fail))); refine wpQuiet_nil ?_; simp only [List.drop_succ_cons, List.drop_zero])
            have hs3 := hbb3.size
            have hgl := heap_lt hg3
            refine wpRel_slot (d := 63) rfl rfl (by decide) (fun wq hbq hkq => ?_) ?_
            · refine relUpon_val (v := .slice (some ⟨wq.heap.size, 0, none⟩) 0 0) (w' := wq.alloc (.cells #[] 5)) (by simp [go_sem]) ((Upto.refl _).alloc _) ⟨_, rfl, (Own.empty wq).mono (by have := hbq.size; omega)⟩
            rintro v ⟨wv, _, b63, rfl, _⟩
            simp only [Act.put, List.setIfInBounds_toArray, List.set_cons_succ, List.set_cons_zero]
            (refine wpRel_seg 6 (by kernel_rfl) ?_; simp only [List.take_succ_cons, List.take_zero]; (repeat (go_big_quiet_step (fail))); refine wpQuiet_nil ?_; simp only [List.drop_succ_cons, List.drop_zero])
            have e3 : k + 9 + q - (k + 9) = q := by omega
            rw [e3]
            have hP' : Rd w3 1 (some { block := ad.block, off := ad.off + (k + 8 + 1) }) q (bv pl) := hP
            refine wpRel_slot (d := 70) rfl rfl (by decide) (fun wq hbq hkq => ?_) ?_
            · obtain ⟨b, e, ho⟩ := hkq 63 (by decide) (by decide)
              have e' : Value.slice (some ⟨b63, 0, none⟩) 0 0 = .slice (some ⟨b, 0, none⟩) 0 0 := e
              injection e' with e'
              injection e' with e'
              injection e' with e'
              subst e'
              obtain ⟨v', w', hr, hb', ho'⟩ := run_append_empty wq b63 (w.heap.size + 1) ho _ _ (c - (k + 9)) pl (hP'.upto hbq fun _ ad' e => by injection e with e; subst e; exact hMB) (by have := HPL.out; omega) (by have := hbq.size; omega) 27
              exact relUpon_val (exec_append (.tmp 63) (.tmp 69) _ _ rfl rfl rfl hr) (Upto.of_below hb') ho'
            rintro v ⟨wv, _, _⟩
            simp only [Act.put, List.setIfInBounds_toArray, List.set_cons_succ, List.set_cons_zero]
            refine wpRel_slot (d := 71) rfl rfl (by decide) (fun wq hbq hkq => ?_) ?_
            · have h70 : Own wq (w.heap.size + 1) v pl := hkq 70 (by decide) (by decide)
              refine relUpon_val (v := .agg #[.int .u8 r0.toNat, v]) ?_ (Upto.refl _) ⟨v, rfl, h70⟩
              obtain ⟨A3, c3, e3, _⟩ := h70.form
              subst e3
              simp [go_sem]
            rintro v2 ⟨_, _, u, rfl, hu⟩
            obtain ⟨A3, c3, rfl, _⟩ := Own.form hu
            simp only [Act.put, List.setIfInBounds_toArray, List.set_cons_succ, List.set_cons_zero]
            (refine wpRel_seg 1 (by kernel_rfl) ?_; simp only [List.take_succ_cons, List.take_zero]; (repeat (go_big_quiet_step (fail))); refine wpQuiet_nil ?_; simp only [List.drop_succ_cons, List.drop_zero])
            refine wpRel_store rfl rfl rfl (fun wq hbq hkq hV => ?_) ?_
            · obtain ⟨u', e, hu'⟩ := hkq 71 (by decide) (by decide)
              have e' : Value.agg #[Value.int .u8 r0.toNat, .slice A3 pl.length c3] = Value.agg #[Value.int .u8 r0.toNat, u'] := e
              injection e' with e'
              obtain rfl : u' = .slice A3 pl.length c3 := by simpa using e'.symm
              have hgq : wq.heap[w.heap.size]? = some (.cells #[.int .u8 0, .slice none 0 0] 89 (0, 0)) := hV
              have hset : Upto (fun b => b = w.heap.size) wq (wq.setRow w.heap.size #[.int .u8 r0.toNat, .slice A3 pl.length c3]) := ⟨rfl, rfl, rfl, by simp, fun k _ hk => setRow_other _ _ _ _ hk⟩
              exact ⟨_, exec_store_row 89 (.tmp 4) (.tmp 71) rfl w.heap.size #[.int .u8 r0.toNat, .slice A3 pl.length c3] rfl rfl 89 _ hgq (by kernel_rfl) rfl (by simp [Value.oneCell']), hset,
                _, setRow_heap _ _ _ _ _ _ hgq, hu'.upto hset fun g' hg' he => by have := (hu'.ownBlock g' hg').1; omega⟩
            refine wpRel_nil ?_
            intro w5 hu5 hst5 _
            obtain ⟨u5, hg5, ho5⟩ := hst5 14 _ (by decide) rfl rfl
            have hbb5 : Below w.heap.size w w5 := ⟨hu5.os.trans hbb3.os, hu5.tape.trans hbb3.tape, hu5.output.trans hbb3.output, Nat.le_trans hbb3.size hu5.size, fun j hj => (hu5.block j (Nat.lt_of_lt_of_le hj hbb3.size) (by omega)).trans (hbb3.block j hj)⟩
            go_wp2_with fail
            (try simp only [Exit.inBlock, Exit.then])
            rw [HD.out]
            refine bodyPost_ret (results_cell_row3 rfl _ _ w.heap.size 89 _ (0, 0) _ rfl hg5 Try.underlying89 rfl (by kernel_rfl)) rfl ⟨u5, ?_, IsRd.of_own ho5, hbb5⟩
            simp [decN]
            omega
end Go.Proofs.Ytabgmodllifgjaa
