/- Contracts of chapter 07's Decode: the program's and the reference's. Conditions: at most 2^47 bytes. -/
import Derived.Test.YtabgmodllifgjaaFrame1
namespace Go.Proofs.Ytabgmodllifgjaa
open Go.RowKit
set_option maxRecDepth 100000
set_option linter.unusedVariables false

/-- What Decode says of bytes that begin at the index: kind, payload, number of bytes of the frame, error. -/
def decR (r : List UInt8) : UInt8 × List UInt8 × Nat × Nat :=
  if r.length < 9 then (0, [], 0, 4)
  else if chk (r.take 9) = false then (0, [], 0, 6)
  else if 4194304 < val ((r.drop 1).take 4) then (0, [], 0, 3)
  else if r.length < val ((r.drop 1).take 4) + 13 then (0, [], 0, 4)
  else if chk ((r.drop 9).take (val ((r.drop 1).take 4) + 4)) = false then (0, [], 0, 6)
  else (r.headD 0, (r.drop 9).take (val ((r.drop 1).take 4)), val ((r.drop 1).take 4) + 13, 0)

/-- The next index. -/
def decN (k : Nat) (x : UInt8 × List UInt8 × Nat × Nat) : Int := if x.2.2.2 = 0 then (k : Int) + x.2.2.1 else 0

/-- What Decode returns: kind, payload, next index, error. -/
def DecPost (w : World) (k : UInt8) (p : List UInt8) (next err : Int) (e : Ending) (w' : World) : Prop :=
  ∃ v, e = .returned (.tuple #[.agg #[.int .u8 k.toNat, v], .int .i64 next, .int .i64 err]) ∧ IsRd p v w' ∧ Below w.heap.size w w'

theorem results_cell_row3 {P : Program} {fn : Func} {p t u : Tmp} {ty : TypeId} (h : fn.results = #[.cell p ty, .tmp t, .tmp u]) (tmps : Array Value) (w : World) (g : Nat) (tt : TypeId) (cs : Array Value) (fr : Nat × Nat) (d : TypeDesc)
    (hp : tmps.getD p undef = .pointer (some ⟨g, 0, none⟩)) (hg : w.heap[g]? = some (.cells cs tt fr))
    (hu : P.underlying ty = some d) (hd : (match d with | .struct _ | .array _ _ => true | _ => false) = true) (hi : (P.info? ty).map (·.size) = some cs.size) :
    (results fn tmps).run P w = .ok (.tuple #[.agg cs, tmps.getD t undef, tmps.getD u undef]) w := by
  have hp' : tmps[p]?.getD undef = .pointer (some ⟨g, 0, none⟩) := by simpa using hp
  simp [results, h, hp', asAddr, run_loadVar_row w g tt ty cs fr d hg hu hd hi]

theorem exec_store_row {P : Program} {o : Oper} {a : Act} {w : World} (ty : TypeId) (x y : Operand) (ho : o.op = .store ty x y)
    (g : Nat) (cells : Array Value) (hx : a.eval x = .pointer (some ⟨g, 0, none⟩)) (hy : a.eval y = .agg cells)
    (t : TypeId) (old : Array Value) (hg : w.heap[g]? = some (.cells old t (0, 0))) (hi : (P.info? ty).map (·.size) = some cells.size)
    (hold : old.size = cells.size) (h1 : cells.all (·.oneCell') = true) : (execOp a.eval o).run P w = .ok .skip (w.setRow g cells) := by
  unfold execOp
  simp only [ho, hx, hy, Instr.storeAt, Instr.sureAddr, Sem.run_bind, Sem.run_pure, Result.andThen_ok, run_storeVar_row w g t ty old cells hg hi hold h1]

/-- The cells of a Frame without anything. -/
def noFrame : Array Value := #[.int .u8 0, .slice none 0 0]

set_option maxHeartbeats 1000000 in
theorem frameDecode_range (l : List UInt8) (A : Option Addr) (n c : Nat) (a : Int) (w : World) (h : Rd w 1 A n (bv l)) (hc : n ≤ c) (hl : l.length ≤ 211106232532992) (ha : a < 0 ∨ (l.length : Int) < a) :
    Calls Try.prog 73 #[.slice A n c, .int .i64 a] w (DecPost w 0 [] 0 2) := by
  have hn := h.len
  subst hn
  go_enter Try.func73, Try.ntmps73
  rcases (show a < 0 ∨ (¬ a < 0 ∧ (l.length : Int) < a) by omega) with h1 | ⟨h1, h2⟩
  · go_wp2_with fail
    refine bodyPost_ret (results_cell_row3 rfl _ _ w.heap.size 89 _ (0, 0) _ rfl (heap_alloc_new _ _) Try.underlying89 rfl (by kernel_rfl)) rfl ⟨_, rfl, IsRd.mk_ Rd.nil (Nat.le_refl _), (Below.refl _ _).alloc (Nat.le_refl _) _⟩
  · go_wp2_with fail
    refine bodyPost_ret (results_cell_row3 rfl _ _ w.heap.size 89 _ (0, 0) _ rfl (heap_alloc_new _ _) Try.underlying89 rfl (by kernel_rfl)) rfl ⟨_, rfl, IsRd.mk_ Rd.nil (Nat.le_refl _), (Below.refl _ _).alloc (Nat.le_refl _) _⟩

/-- The result's cell, ahead of the store and behind it. -/
def DecV (g : Nat) (k : UInt8) (p : List UInt8) (b : Bool) (w : World) : Prop :=
  if b then ∃ u, w.heap[g]? = some (.cells #[.int .u8 k.toNat, u] 89 (0, 0)) ∧ Own w (g + 1) u p else w.heap[g]? = some (.cells #[.int .u8 0, .slice none 0 0] 89 (0, 0))
theorem Upto.mono {M M' : Nat → Prop} {w w' : World} (h : Upto M w w') (hM : ∀ k, M k → M' k) : Upto M' w w' := ⟨h.os, h.tape, h.output, h.size, fun k h1 h2 => h.block k h1 fun h3 => h2 (hM k h3)⟩
theorem heap_lt {w : World} {g : Nat} {o : Obj} (h : w.heap[g]? = some o) : g < w.heap.size := by
  rcases Nat.lt_or_ge g w.heap.size with h' | h'
  · exact h'
  · rw [Array.getElem?_eq_none h'] at h; cases h
theorem DecV.steps (g : Nat) (k : UInt8) (p : List UInt8) : Steps (DecV g k p) (fun _ => Upto fun _ => False) (fun b => b = g)
    (Fof [(63, fun v w' => Own w' (g + 1) v p), (64, fun v w' => ∃ u, v = .agg #[.int .u8 k.toNat, u] ∧ Own w' (g + 1) u p)]) := by
  have hO : ∀ {v w w'}, Own w (g + 1) v p → Upto (fun b => b = g) w w' → Own w' (g + 1) v p := fun h hU => h.upto hU fun q hq he => by have := (h.ownBlock q hq).1; omega
  refine ⟨fun b d w w' hV hU => ?_, fun t v w w' hF hU => ?_⟩
  · unfold DecV at hV ⊢
    split
    · rename_i hb
      rw [if_pos hb] at hV
      obtain ⟨u, h1, h2⟩ := hV
      exact ⟨u, (hU.block g (heap_lt h1) id).trans h1, hO h2 (hU.mono fun _ h => h.elim)⟩
    · rename_i hb
      rw [if_neg hb] at hV
      exact (hU.block g (heap_lt hV) id).trans hV
  · refine Stable.fof (M := fun b => b = g) ?_ t v w w' hF hU
    intro p hp
    simp only [List.mem_cons, List.not_mem_nil, or_false] at hp
    rcases hp with rfl | rfl
    · exact fun v w w' h hU => hO h hU
    · exact fun v w w' ⟨u, e, h⟩ hU => ⟨u, e, hO h hU⟩

set_option maxHeartbeats 1000000 in
theorem frameDecode_any (l : List UInt8) (A : Option Addr) (n c k : Nat) (w : World) (h : Rd w 1 A n (bv l)) (hc : n ≤ c) (hl : l.length ≤ 211106232532992) (hk : k ≤ l.length) :
    Calls Try.prog 73 #[.slice A n c, .int .i64 k] w (DecPost w (decR (l.drop k)).1 (decR (l.drop k)).2.1 (decN k (decR (l.drop k))) (decR (l.drop k)).2.2.2) := by
  have hn := h.len
  subst hn
  have hR := h.sufIf k c hk hc
  have hrl : (l.drop k).length = l.length - k := by simp
  have hk0 : ¬ (k : Int) < 0 := by omega
  have hk1 : ¬ (l.length : Int) < (k : Int) := by omega
  have hkc : (k : Int) ≤ (l.length : Int) := by omega
  have HR := Lib.hid hrl
  clear hrl
  generalize l.drop k = r at *
  go_enter Try.func73, Try.ntmps73
  by_cases h9 : l.length - k < 9
  · have h9' : (l.length : Int) - (k : Int) < 9 := by omega
    have hd : decR r = (0, [], 0, 4) := by unfold decR; rw [HR.out, if_pos h9]
    rw [hd]
    go_wp2_with fail
    all_goals exact bodyPost_ret (results_cell_row3 rfl _ _ w.heap.size 89 _ (0, 0) _ rfl (heap_alloc_new _ _) Try.underlying89 rfl (by kernel_rfl)) rfl ⟨_, rfl, IsRd.mk_ Rd.nil (Nat.le_refl _), (Below.refl _ _).alloc (Nat.le_refl _) _⟩
  · have h9' : ¬ ((l.length - k : Nat) : Int) < 9 := by omega
    have hck : ¬ c = k := by omega
    rw [if_neg hck] at hR
    obtain ⟨ad, rfl, _⟩ := h.2 (by omega)
    simp only [Option.map_some] at hR
    go_wp2_with fail
    have hb1 : Below w.heap.size w (w.alloc (.cells #[.int .u8 0, .slice none 0 0] 89)) := (Below.refl _ _).alloc (Nat.le_refl _) _
    have hg1 : (w.alloc (.cells #[.int .u8 0, .slice none 0 0] 89)).heap[w.heap.size]? = some (.cells #[.int .u8 0, .slice none 0 0] 89 (0, 0)) := heap_alloc_new _ _
    generalize w.alloc (.cells #[.int .u8 0, .slice none 0 0] 89) = w1 at *
    have hR1 := hR.below hb1
    have hdc : l.length - k ≤ c - k := by omega
    have hml : l.length - k ≤ 211106232532992 := by omega
    have hkm : k + (l.length - k) ≤ 211106232532992 := by omega
    generalize ad.add k = B at *
    generalize l.length - k = m at *
    generalize c - k = d at *
    refine (check_any (r.take 9) (some B) 9 d w1 (hR1.pre 9 (by omega)) (by omega) (by simp [maxLen])).mono ?_
    rintro e w2 ⟨rfl, hb2⟩
    have hlt1 : w.heap.size < w1.heap.size := by
      rcases Nat.lt_or_ge w.heap.size w1.heap.size with h' | h'
      · exact h'
      · rw [Array.getElem?_eq_none h'] at hg1; cases hg1
    have hg2 := (hb2.block _ hlt1).trans hg1
    have hR2 := hR1.below hb2
    have hbb2 := hb1.trans (hb2.mono hb1.size)
    have hlt2 : w.heap.size < w2.heap.size := Nat.lt_of_lt_of_le hlt1 hb2.size
    have hm9 : 9 ≤ m := by omega
    have hRm : r.length = m := HR.out
    have HRM := Lib.hid hRm
    clear hRm h9 h9'
    cases hck : chk (r.take 9)
    · have hd : decR r = (0, [], 0, 6) := by unfold decR; rw [if_neg (by have := HRM.out; omega), if_pos hck]
      have HD := Lib.hid hd
      clear hd
      go_wp2_with (refine wpList_store_row rfl 89 (.tmp 4) (.tmp 32) rfl w.heap.size #[.int .u8 0, .slice none 0 0] rfl rfl 89 _ hg2 (by kernel_rfl) rfl (by kernel_rfl) ?_)
      (try simp only [Exit.inBlock, Exit.then])
      rw [HD.out]
      exact bodyPost_ret (results_cell_row3 rfl _ _ w.heap.size 89 _ (0, 0) _ rfl (setRow_heap _ _ _ _ _ _ hg2) Try.underlying89 rfl (by kernel_rfl)) rfl ⟨_, rfl, IsRd.mk_ Rd.nil (Nat.le_refl _), below_setRow hbb2 (Nat.le_refl _) _⟩
    · go_wp2_with fail
      refine (little_read ((r.drop 1).take 4) _ _ _ _ (hR2.mid 1 5 (by omega) (by omega)) (by simp; omega)).mono ?_
      rintro e w3 ⟨rfl, rfl⟩
      have hn32 : val ((r.drop 1).take 4) < 4294967296 := by
        have := val_lt ((r.drop 1).take 4)
        have h4 : ((r.drop 1).take 4).length = 4 := by simp; have := HRM.out; omega
        rw [h4] at this
        exact this
      have HNV : Hid (∃ q, q = val ((r.drop 1).take 4)) := Lib.hid ⟨_, rfl⟩
      generalize hq : val ((r.drop 1).take 4) = q at *
      have HQ := Lib.hid hq
      clear hq
      by_cases hbig : 4194304 < q
      · have hd : decR r = (0, [], 0, 3) := by unfold decR; rw [if_neg (by have := HRM.out; omega), if_neg (by rw [hck]; simp), if_pos (by rw [HQ.out]; exact hbig)]
        have HD := Lib.hid hd
        clear hd
        have hb' : (4194304 : Int) < (q : Int) := by omega
        go_wp2_with (refine wpList_store_row rfl 89 (.tmp 4) (.tmp 38) rfl w.heap.size #[.int .u8 0, .slice none 0 0] rfl rfl 89 _ hg2 (by kernel_rfl) rfl (by kernel_rfl) ?_)
        (try simp only [Exit.inBlock, Exit.then])
        rw [HD.out]
        exact bodyPost_ret (results_cell_row3 rfl _ _ w.heap.size 89 _ (0, 0) _ rfl (setRow_heap _ _ _ _ _ _ hg2) Try.underlying89 rfl (by kernel_rfl)) rfl ⟨_, rfl, IsRd.mk_ Rd.nil (Nat.le_refl _), below_setRow hbb2 (Nat.le_refl _) _⟩
      · have hb' : ¬ (4194304 : Int) < (q : Int) := by omega
        have hw1 : IntKind.i64.wrap (q : Int) = (q : Int) := IntWalk.i64_in _ (by omega)
        have hw2 : IntKind.i64.wrap (9 + (q : Int)) = 9 + (q : Int) := IntWalk.i64_in _ (by omega)
        have hw3 : IntKind.i64.wrap (9 + (q : Int) + 4) = 9 + (q : Int) + 4 := IntWalk.i64_in _ (by omega)
        by_cases hend : m < q + 13
        · have hd : decR r = (0, [], 0, 4) := by unfold decR; rw [if_neg (by have := HRM.out; omega), if_neg (by rw [hck]; simp), if_neg (by rw [HQ.out]; exact hbig), if_pos (by rw [HQ.out, HRM.out]; exact hend)]
          have HD := Lib.hid hd
          clear hd
          have he' : (m : Int) < 9 + (q : Int) + 4 := by omega
          go_wp2_with (refine wpList_store_row rfl 89 (.tmp 4) (.tmp 48) rfl w.heap.size #[.int .u8 0, .slice none 0 0] rfl rfl 89 _ hg2 (by kernel_rfl) rfl (by kernel_rfl) ?_)
          (try simp only [Exit.inBlock, Exit.then])
          rw [HD.out]
          exact bodyPost_ret (results_cell_row3 rfl _ _ w.heap.size 89 _ (0, 0) _ rfl (setRow_heap _ _ _ _ _ _ hg2) Try.underlying89 rfl (by kernel_rfl)) rfl ⟨_, rfl, IsRd.mk_ Rd.nil (Nat.le_refl _), below_setRow hbb2 (Nat.le_refl _) _⟩
        · have he' : ¬ (m : Int) < 9 + (q : Int) + 4 := by omega
          go_wp2_with fail
          have hM := hR2.mid 9 (q + 13) (by omega) (by omega)
          have e1 : q + 13 - 9 = q + 4 := by omega
          have e2 : 9 + q - 5 = q + 4 := by omega
          rw [e1] at hM
          rw [e2]
          refine (check_any ((r.drop 9).take (q + 4)) _ _ _ w2 hM (by omega) (by simp [maxLen]; omega)).mono ?_
          rintro e w3 ⟨rfl, hb3⟩
          have hg3 := (hb3.block _ hlt2).trans hg2
          have hR3 := hR2.below hb3
          have hbb3 := hbb2.trans (hb3.mono hbb2.size)
          cases hck2 : chk ((r.drop 9).take (q + 4))
          · have hd : decR r = (0, [], 0, 6) := by unfold decR; rw [if_neg (by have := HRM.out; omega), if_neg (by rw [hck]; simp), if_neg (by rw [HQ.out]; exact hbig), if_neg (by rw [HQ.out, HRM.out]; exact hend), if_pos (by rw [HQ.out]; exact hck2)]
            have HD := Lib.hid hd
            clear hd
            go_wp2_with (refine wpList_store_row rfl 89 (.tmp 4) (.tmp 55) rfl w.heap.size #[.int .u8 0, .slice none 0 0] rfl rfl 89 _ hg3 (by kernel_rfl) rfl (by kernel_rfl) ?_)
            (try simp only [Exit.inBlock, Exit.then])
            rw [HD.out]
            exact bodyPost_ret (results_cell_row3 rfl _ _ w.heap.size 89 _ (0, 0) _ rfl (setRow_heap _ _ _ _ _ _ hg3) Try.underlying89 rfl (by kernel_rfl)) rfl ⟨_, rfl, IsRd.mk_ Rd.nil (Nat.le_refl _), below_setRow hbb3 (Nat.le_refl _) _⟩
          · have hd : decR r = (r.headD 0, (r.drop 9).take q, q + 13, 0) := by unfold decR; rw [if_neg (by have := HRM.out; omega), if_neg (by rw [hck]; simp), if_neg (by rw [HQ.out]; exact hbig), if_neg (by rw [HQ.out, HRM.out]; exact hend), if_neg (by rw [HQ.out, hck2]; simp), HQ.out]
            have HD := Lib.hid hd
            clear hd
            have hBlt : B.block < w.heap.size := by
              obtain ⟨B', e, hcc⟩ := hR.2 (by omega)
              injection e with e
              subst e
              have h0 := block_lt_of_cell (hcc 0 _ (bv_get r 0 (by have := HRM.out; omega)))
              rwa [add_block] at h0
            obtain ⟨B', hr0, e0, hc0⟩ := hR3.byte (k := 0) (by omega)
            injection e0 with e0
            subst e0
            have hhd : r[0] = r.headD 0 := by cases r with | nil => simp at hr0 | cons x xs => rfl
            rw [hhd] at hc0
            have HHD := Lib.hid hhd
            clear hhd
            generalize r.headD 0 = r0 at *
            have hB0 : B.add 0 = B := rfl
            rw [hB0] at hc0
            have hMB : ¬ B.block = w.heap.size := by omega
            have hd0 : ∀ d : BelM (fun b => b = w.heap.size) w3, d.1.cell? B = some (.int .u8 r0.toNat) := fun d => BelM.cell d hc0 hMB
            have hP : Rd w3 1 (some (B.add 9)) q (bv ((r.drop 9).take q)) := by
              have := hR3.mid 9 (q + 9) (by omega) (by omega)
              have e : q + 9 - 9 = q := by omega
              rw [e] at this
              exact this
            have hpl : ((r.drop 9).take q).length = q := by have := HRM.out; simp; omega
            generalize hpp : (r.drop 9).take q = pl at *
            have HPP := Lib.hid hpp
            clear hpp
            have HPL := Lib.hid hpl
            clear hpl
            have hw4 : IntKind.i64.wrap (9 + (q : Int) + 4 - 4) = 9 + (q : Int) := by rw [show (9 + (q : Int) + 4 - 4) = 9 + (q : Int) by omega]; exact hw2
            have hw5 : IntKind.i64.wrap ((k : Int) + (9 + (q : Int) + 4)) = (k : Int) + (9 + (q : Int) + 4) := IntWalk.i64_in _ (by omega)
            go_wp2_with fail
            refine wp_region_rel_tailV (V := DecV w.heap.size r0 pl) (St := fun _ => Upto fun _ => False) 13 (by kernel_rfl) (fun b => b = w.heap.size) [63, 64] (Fof [(63, fun v w' => Own w' (w.heap.size + 1) v pl), (64, fun v w' => ∃ u, v = .agg #[.int .u8 r0.toNat, u] ∧ Own w' (w.heap.size + 1) u pl)])
              (by kernel_rfl) (by kernel_rfl) (by kernel_rfl) (DecV.steps _ _ _) hg3 (fun _ _ _ h => h.mono fun _ h => h.elim) (fun t d v wa wb _ hF hU => (DecV.steps w.heap.size r0 pl).store t v wa wb hF (hU.mono fun _ h => h.elim)) (by simp) ?_
            simp only [List.take_succ_cons, List.take_zero, List.drop_succ_cons, List.drop_zero]
            (refine wpRel_seg 7 (by kernel_rfl) ?_; simp only [List.take_succ_cons, List.take_zero]; (repeat (go_big_quiet_step (fail))); refine wpQuiet_nil ?_; simp only [List.drop_succ_cons, List.drop_zero])
            have e3 : 9 + q - 9 = q := by omega
            rw [e3]
            have hP' : Rd w3 1 (some { block := B.block, off := B.off + 9 }) q (bv pl) := hP
            refine wpRel_slot (d := 63) rfl rfl (by decide) (fun wq hbq hkq => ?_) ?_
            · refine relUpon_enter (f := 86) (args := #[.slice (some { block := B.block, off := B.off + 9 }) q (d - 9)]) (by simp [go_sem]) ?_
              refine (clone_any pl _ _ _ wq (hP'.upto hbq fun _ ad' e => by injection e with e; subst e; exact hMB) (by have := HPL.out; omega)).mono ?_
              rintro e w4 ⟨r4, rfl, h4, hb4⟩
              have hs3 := hbb3.size
              have hsq := hbq.size
              exact ⟨_, rfl, Upto.of_below hb4, h4.mono (by have := heap_lt hg3; omega)⟩
            rintro v ⟨wv, _, _⟩
            simp only [Act.put, List.setIfInBounds_toArray, List.set_cons_succ, List.set_cons_zero]
            refine wpRel_slot (d := 64) rfl rfl (by decide) (fun wq hbq hkq => ?_) ?_
            · have h63 := hkq 63 (by decide) (by decide)
              refine relUpon_val (v := .agg #[.int .u8 r0.toNat, v]) ?_ (Upto.refl _) ⟨v, rfl, h63⟩
              obtain ⟨A3, c3, e3, _⟩ := Own.form h63
              have e3' : v = _ := e3
              subst e3'
              simp [go_sem]
            rintro v2 ⟨_, _, u, rfl, hu⟩
            obtain ⟨A3, c3, rfl, _⟩ := Own.form hu
            simp only [Act.put, List.setIfInBounds_toArray, List.set_cons_succ, List.set_cons_zero]
            (refine wpRel_seg 3 (by kernel_rfl) ?_; simp only [List.take_succ_cons, List.take_zero]; (repeat (go_big_quiet_step (fail))); refine wpQuiet_nil ?_; simp only [List.drop_succ_cons, List.drop_zero])
            refine wpRel_store rfl rfl rfl (fun wq hbq hkq hV => ?_) ?_
            · obtain ⟨u', e, hu'⟩ := hkq 64 (by decide) (by decide)
              have e' : Value.agg #[Value.int .u8 r0.toNat, .slice A3 pl.length c3] = Value.agg #[Value.int .u8 r0.toNat, u'] := e
              injection e' with e'
              obtain rfl : u' = .slice A3 pl.length c3 := by simpa using e'.symm
              have hgq : wq.heap[w.heap.size]? = some (.cells #[.int .u8 0, .slice none 0 0] 89 (0, 0)) := hV
              have hset : Upto (fun b => b = w.heap.size) wq (wq.setRow w.heap.size #[.int .u8 r0.toNat, .slice A3 pl.length c3]) := ⟨rfl, rfl, rfl, by simp, fun k _ hk => setRow_other _ _ _ _ hk⟩
              exact ⟨_, exec_store_row 89 (.tmp 4) (.tmp 64) rfl w.heap.size #[.int .u8 r0.toNat, .slice A3 pl.length c3] rfl rfl 89 _ hgq (by kernel_rfl) rfl (by simp [Value.oneCell']), hset,
                _, setRow_heap _ _ _ _ _ _ hgq, hu'.upto hset fun g' hg' he => by have := (hu'.ownBlock g' hg').1; omega⟩
            refine wpRel_nil ?_
            intro w5 hu5 hst5 _
            obtain ⟨u5, hg5, ho5⟩ := hst5 12 _ (by decide) rfl rfl
            have hbb5 : Below w.heap.size w w5 := ⟨hu5.os.trans hbb3.os, hu5.tape.trans hbb3.tape, hu5.output.trans hbb3.output, Nat.le_trans hbb3.size hu5.size, fun j hj => (hu5.block j (Nat.lt_of_lt_of_le hj hbb3.size) (by omega)).trans (hbb3.block j hj)⟩
            go_wp2_with fail
            (try simp only [Exit.inBlock, Exit.then])
            rw [HD.out]
            refine bodyPost_ret (results_cell_row3 rfl _ _ w.heap.size 89 _ (0, 0) _ rfl hg5 Try.underlying89 rfl (by kernel_rfl)) rfl ⟨u5, ?_, IsRd.of_own ho5, hbb5⟩
            simp [decN]
            omega
end Go.Proofs.Ytabgmodllifgjaa
