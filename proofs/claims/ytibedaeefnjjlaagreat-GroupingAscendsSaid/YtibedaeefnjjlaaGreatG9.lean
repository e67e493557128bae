/- Texts of the second layer in one: Tq1 Cm2 Tq3. -/
import Derived.Test.YtibedaeefnjjlaaGreatG6
import Derived.Test.YtibedaeefnjjlaaGreatG7
import Derived.Test.YtibedaeefnjjlaaGreatG8
import Derived.WalkKit
import Derived.WalkSpells
import Derived.WalkLawsBesides
import Derived.Test.YtibedaeefnjjlaaGreatG1
import Derived.Test.YtibedaeefnjjlaaGreatG4
set_option maxRecDepth 100000
set_option linter.unusedVariables false
set_option linter.unusedSimpArgs false
namespace Go.Proofs.YtibedaeefnjjlaaGreat
open Go.RowKit Go.Ab
def modz (a n : Int) : Int := if n < 1 then 0 else a % n
theorem modz_range (a : Int) {n : Int} (h : 1 ≤ n) : 0 ≤ modz a n ∧ modz a n < n := by
 unfold modz
 rw [if_neg (by omega)]
 exact ⟨Int.emod_nonneg _ (by omega), Int.emod_lt_of_pos _ (by omega)⟩
def Ints (l : List Int) : Prop := ∀ x ∈ l, -9223372036854775808 ≤ x ∧ x < 9223372036854775808
def nx (l : List Int) (k : Nat) (m : Int) : Int := modz (l.getD k 0) m
def adv (l : List Int) (k : Nat) : Nat := if k < l.length then k + 1 else k
theorem nx_range (l : List Int) (k : Nat) {m : Int} (h : 1 ≤ m) : 0 ≤ nx l k m ∧ nx l k m < m := modz_range _ h
abbrev tb (l : List Int) (k : Nat) : Blk := .var 58 [.r (.sl 1 (nums .i64 l)), .r (.v (.int .i64 (k : Int)))]
theorem mod_m (a n : Int) (ha : -9223372036854775808 ≤ a ∧ a < 9223372036854775808) (hn : -9223372036854775808 ≤ n ∧ n < 9223372036854775808) : Meets Tryz.prog 30 [.r (.v (.int .i64 a)), .r (.v (.int .i64 n))] [] (.r (.v (.int .i64 (modz a n)))) [] := by
 refine fn_of Tryz.func30 rfl (Nat.le_of_ble_eq_true rfl) rfl rfl ?_
 have h0 : n < 1 → (0 : Int) = modz a n := fun h => by unfold modz; rw [if_pos h]
 have h1 : 1 ≤ n → (a.tmod n < 0 → IntKind.i64.wrap (a.tmod n + n) = modz a n) ∧ (¬ a.tmod n < 0 → a.tmod n = modz a n) := fun h => by
  have hmz : modz a n = a % n := by unfold modz; rw [if_neg (by omega)]
  rw [hmz]
  have e1 := Int.emod_nonneg a (show n ≠ 0 by omega)
  have e2 := Int.emod_lt_of_pos a (show 0 < n by omega)
  have e3 := Int.tmod_eq_emod (a := a) (b := n)
  refine ⟨fun hl => ?_, fun hl => ?_⟩
  ·rw [IntKind.wrap_i64]
   split at e3
   ·omega
   ·have := Int.natAbs_of_nonneg (show 0 ≤ n by omega)
    omega
  ·split at e3
   ·omega
   ·have := Int.natAbs_of_nonneg (show 0 ≤ n by omega)
    omega
 (repeat' (first | refine r_4eabd4 ?_ | (refine r_0efca5 (fun hb => ?_) (fun hb => ?_) <;> (try (exfalso; omega))) | fail))
 all_goals (first | (exfalso; omega) | exact ret1 [] (.int (h0 (by omega))) rfl rfl rfl | exact ret1 [] (.int ((h1 (by omega)).1 (by assumption))) rfl rfl rfl | exact ret1 [] (.int ((h1 (by omega)).2 (by assumption))) rfl rfl rfl)
theorem post_one' {S : St} {b : Blk} (h : getH S.H 0 = some b) (hi : b.ids = []) : ∀ i c, (i, some c) ∈ numdP 0 [some b] → getH S.H i = some c ∧ c.ids = [] := by
 intro i c hc
 simp only [numdP, List.mem_cons, List.not_mem_nil, or_false, Prod.mk.injEq, Option.some.injEq] at hc
 obtain ⟨rfl, rfl⟩ := hc
 exact ⟨h, hi⟩
theorem next_m (l : List Int) (k : Nat) (m : Int) (hl : Ints l) (hn : l.length ≤ 140737488351232) (hm : -9223372036854775808 ≤ m ∧ m < 9223372036854775808) : Meets Tryz.prog 12 [.pt 0 0, .r (.v (.int .i64 m))] [tb l k] (.r (.v (.int .i64 (nx l k m)))) [some (tb l (adv l k))] := by
 refine fn_of Tryz.func12 rfl (Nat.le_of_ble_eq_true rfl) rfl rfl ?_
 have hll := nums_len .i64 l
 rcases Nat.lt_or_ge k l.length with hk | hk
 ·have hw1 : IntKind.i64.wrap ((k : Int) + 1) = ((k + 1 : Nat) : Int) := by rw [IntKind.wrap_i64]; omega
  have hw2 : IntKind.i64.wrap (((k + 1 : Nat) : Int) - 1) = (k : Int) := by rw [IntKind.wrap_i64]; omega
  have hg := nums_get (k := .i64) hk
  have hx : -9223372036854775808 ≤ l.getD k 0 ∧ l.getD k 0 < 9223372036854775808 := by
   have : l.getD k 0 = l[k] := by simp [hk]
   rw [this]; exact hl _ (List.getElem_mem hk)
  have ha : adv l k = k + 1 := by unfold adv; rw [if_pos hk]
  have hn : nx l k m = modz (l.getD k 0) m := rfl
  rw [ha, hn]
  (repeat' (first | refine r_4eabd4 ?_ | (refine is_f 30 ?_; refine r_bb2b31 (mod_m (l.getD k 0) m hx hm) ?_) | (refine r_0efca5 (fun hb => ?_) (fun hb => ?_) <;> (try (exfalso; omega))) | fail))
  all_goals (first | (exfalso; omega) | exact ret1P [] (.int rfl) rfl rfl (post_one' rfl rfl) rfl)
 ·have ha : adv l k = k := by unfold adv; rw [if_neg (by omega)]
  have hz : (0 : Int) = nx l k m := by
   unfold nx modz
   have : l.getD k 0 = 0 := by simp [hk]
   rw [this]; split <;> simp
  rw [ha, ← hz]
  (repeat' (first | refine r_4eabd4 ?_ | (refine r_0efca5 (fun hb => ?_) (fun hb => ?_) <;> (try (exfalso; omega))) | fail))
  all_goals (first | (exfalso; omega) | exact ret1P [] (.int rfl) rfl rfl (post_one' rfl rfl) rfl)
theorem new_raw (A : Option Addr) (n c : Nat) (w : World) : Calls Tryz.prog 7 #[.slice A n c] w fun e w' => e = .returned (.pointer (some ⟨w.heap.size, 0, none⟩)) ∧ w'.heap[w.heap.size]? = some (.cells #[.slice A n c, .int .i64 ((0 : Nat) : Int)] 58 (0, 0)) ∧ Below w.heap.size w w' := by
 go_enter Tryz.func7, Tryz.ntmps7
 go_wp2
 go_ret
 exact ⟨rfl, heap_alloc_new _ _, (Below.refl _ _).alloc (Nat.le_refl _) _⟩
theorem new_m (l : List Int) : Makes Tryz.prog 7 [.r (.sl 1 (nums .i64 l))] 58 [.sl 1 (nums .i64 l), .v (.int .i64 ((0 : Nat) : Int))] := by
 intro w Z M us hM hargs
 simp only [AV.reps, AV.rep] at hargs
 obtain ⟨u, us', rfl, h1, rfl⟩ := hargs
 have h1' := h1
 rw [RV.rep] at h1
 obtain ⟨A, c, rfl, _⟩ := h1
 refine (new_raw A _ c w).mono fun e w' ⟨he, ha, hb⟩ => ⟨_, _, he, Nat.le_refl _, ha, ?_, hb⟩
 exact .cons rfl (RV.rep_mono (Go.Ab.Upto.of_below hb) (fun q hq hq' => hq'.resolve_right (by omega)) _ _ h1') (.cons rfl (by rw [RV.rep]) .nil)
end Go.Proofs.YtibedaeefnjjlaaGreat
namespace Go.Proofs.YtibedaeefnjjlaaGreat
open Go.RowKit Go.Ab
def iv (l : List Int) : List Value := l.map (Value.int .i64)
theorem iv_len (l : List Int) : (iv l).length = l.length := by simp [iv]
theorem iv_get (l : List Int) (k : Nat) (h : k < l.length) : (iv l)[k]? = some (.int .i64 (l[k]'h)) := by simp [iv, h]
theorem IsRow.ints {w : World} {a : Option Addr} {len cap : Nat} {zs : List Int} (h : IsRow .i64 w a len cap zs) :
  ∃ l : List Int, l.length = len ∧ len ≤ cap ∧ Ints l ∧ Rd w 1 a len (iv l) := by
 obtain ⟨h1, h2, h3, h4⟩ := h.vals
 exact ⟨zs.take len, h2, h1, fun x hx => wf_i64 (h3 x hx), h4⟩
theorem cm_calls {P : Program} {f : FuncId} {args : List AV} {us : List Value} {x : Value} {w : World} (h : Meets P f args [] (.r (.v x)) []) (hr : AV.reps (fun _ => undef) (fun _ => False) w args us) : Calls P f us.toArray w fun e w' => e = .returned x ∧ Below w.heap.size w w' := by
 refine (h w (fun _ => undef) (fun _ => False) 0 us (fun x h => h.elim) (Nat.zero_le _) hr (fun i b h => by simp [numd] at h) (fun i j b c h => by simp [numd] at h)).mono fun e w' ⟨v, he, Z', A⟩ => ?_
 have h1 := A.out
 simp only [callSp, AV.unfr, AV.rep, RV.rep] at h1
 subst h1
 refine ⟨he, Go.Ab.Upto.to_below (A.upto.mono fun q _ h => ?_)⟩
 obtain ⟨i, o, hi, _⟩ := h
 simp [callSp, numdP] at hi
theorem cm_nums (B : Nat → Prop) (w : World) : ∀ l : List Int, RVs B w (nums .i64 l).flatten (iv l)
 | [] => .nil
 | x :: l => by
  rw [nums, List.map_cons, List.flatten_cons, iv, List.map_cons]
  exact .cons rfl (by rw [RV.rep]) (cm_nums B w l)
theorem cm_rdi {B : Nat → Prop} {w : World} {A : Option Addr} {n c : Nat} {l : List Int} (h : Rd w 1 A n (iv l)) (hn : n ≤ c) (hc : c ≤ maxLen) (hB : ∀ q, q < w.heap.size → ¬ B q) : RV.rep B w (.sl 1 (nums .i64 l)) (.slice A n c) := by
 have hl : l.length = n := by have := h.1; rw [iv_len] at this; omega
 rw [RV.rep, nums_len]
 refine ⟨A, c, by rw [hl], by omega, hc, fun e he => by simp only [nums, List.mem_map] at he; obtain ⟨b, _, rfl⟩ := he; rfl, fun hne => ?_⟩
 have hpos : 0 < n := by
  rcases Nat.eq_zero_or_pos n with h0 | h0
  ·exact absurd (List.eq_nil_of_length_eq_zero (by rw [nums_len]; omega)) hne
  ·exact h0
 obtain ⟨ad, e, hcell⟩ := h.2 hpos
 have hlt : ad.block < w.heap.size := by
  have := block_lt_of_cell (hcell 0 _ (iv_get l 0 (by omega)))
  rwa [add_block] at this
 refine ⟨ad, e, hlt, hB _ hlt, ?_⟩
 rw [RV.rows_flat, RV.row_vals]
 exact ⟨iv l, cm_nums _ _ l, fun j v hj => by rw [Nat.zero_add]; exact hcell j v hj⟩
end Go.Proofs.YtibedaeefnjjlaaGreat
namespace Go.Proofs.YtibedaeefnjjlaaGreat
open Go.RowKit Go.Ab
theorem post_one {S : St} {b : Blk} (h : getH S.H 0 = some b) (hi : b.ids = []) : ∀ i c, (i, some c) ∈ numdP 0 [some b] → getH S.H i = some c ∧ c.ids = [] := by
 intro i c hc
 simp only [numdP, List.mem_cons, List.not_mem_nil, or_false, Prod.mk.injEq, Option.some.injEq] at hc
 obtain ⟨rfl, rfl⟩ := hc
 exact ⟨h, hi⟩
theorem bool_m (l : List Int) (k : Nat) (hl : Ints l) (hn : l.length ≤ 140737488351232) : Meets Tryz.prog 20 [.pt 0 0, .r (.v (.int .i64 4))] [tb l k] (.r (.v (.bool (decide (nx l k 4 = 1))))) [some (tb l (adv l k))] := by
 refine fn_of Tryz.func20 rfl (Nat.le_of_ble_eq_true rfl) rfl rfl ?_
 (repeat' (first | refine r_13f87e ?_ | (refine is_f 12 ?_; refine r_d3ed50 (next_m l k 4 hl hn (by omega)) ?_) | (refine r_e4e690 (fun hb => ?_) (fun hb => ?_) <;> (try (exfalso; omega))) | fail))
 all_goals exact ret1P [] (.bool (by have e : Int.tmod 1 4 = 1 := by decide
                                     rw [e] at hb; simp [hb])) rfl rfl (post_one rfl rfl) rfl
def wds (l : List Int) (k : Nat) : Nat → Int × Nat
 | 0 => (0, k)
 | j + 1 => (IntKind.u64.wrap (IntKind.u64.wrap ((wds l k j).1 * 2 ^ min (Int.toNat 16) (IntKind.bits .u64)) + nx l (wds l k j).2 65536), adv l (wds l k j).2)
theorem word_m (l : List Int) (k : Nat) (hl : Ints l) (hn : l.length ≤ 140737488351232) : Meets Tryz.prog 29 [.pt 0 0] [tb l k] (.r (.v (.int .u64 (wds l k 4).1))) [some (tb l (wds l k 4).2)] := by
 refine fn_of Tryz.func29 rfl (Nat.le_of_ble_eq_true rfl) rfl rfl ?_
 (repeat' (first | refine r_13f87e ?_ | (refine r_e4e690 (fun hb => ?_) (fun hb => ?_) <;> (try (exfalso; omega))) | fail))
 refine awp_loop' (fun j => ⟨[(0, .pt 0 0), (3, .r (.v (.int .u64 (wds l k j).1))), (4, .r (.v (.int .i64 (j : Int))))], [(0, some (tb l (wds l k j).2))], 1⟩) (fun j => j ≤ 4) (fun j => 4 - j) 0 (Nat.zero_le _) (by (refine Le.mk [] [] rfl ?_ ?_ q_7a7c8 <;> (repeat' (first | (first | exact le_nil | refine le_na ?_ | refine le_r ?_ rfl rfl | refine le_int ?_ (by omega) rfl | refine le_ow ?_ rfl rfl | refine le_pt ?_ rfl rfl | refine le_fz ?_ rfl q_bf1c9 rfl rfl) | exact hl_nil | refine hl_row ?_ rfl rfl | refine hl_full ?_ rfl rfl | refine hl_var ?_ ?_ rfl | refine cfl_r ?_ rfl | refine cfl_int ?_ (by omega) | exact CfL.nil)))) fun j hj => ?_
 have hx := nx_range l (wds l k j).2 (show (1 : Int) ≤ 65536 by omega)
 (repeat' (first | refine r_13f87e ?_ | (refine is_f 12 ?_; refine r_d3ed50 (next_m l (wds l k j).2 65536 hl hn (by omega)) ?_) | (refine r_e4e690 (fun hb => ?_) (fun hb => ?_) <;> (try (exfalso; omega))) | fail))
 ·exact ⟨j + 1, by omega, by (refine Le.mk [] [] rfl ?_ ?_ q_7a7c8 <;> (repeat' (first | (first | exact le_nil | refine le_na ?_ | refine le_r ?_ rfl rfl | refine le_int ?_ (by omega) rfl | refine le_ow ?_ rfl rfl | refine le_pt ?_ rfl rfl | refine le_fz ?_ rfl q_bf1c9 rfl rfl) | exact hl_nil | refine hl_row ?_ rfl rfl | refine hl_full ?_ rfl rfl | refine hl_var ?_ ?_ rfl | refine cfl_r ?_ rfl | refine cfl_int ?_ (by omega) | exact CfL.nil))), by omega⟩
 ·obtain rfl : j = 4 := by omega
  exact ret1P [] (.int rfl) rfl rfl (post_one rfl rfl) rfl
def itv (l : List Int) (k : Nat) : Int × Nat :=
 if nx l k 8 = 0 then (IntKind.i64.wrap (wds l (adv l k) 4).1, (wds l (adv l k) 4).2)
 else if nx l k 8 = 1 then (9223372036854775807 - nx l (adv l k) 4, adv l (adv l k))
 else if nx l k 8 = 2 then (-9223372036854775808 + nx l (adv l k) 4, adv l (adv l k))
 else if nx l k 8 = 3 then (IntKind.i64.wrap ((wds l (adv l k) 4).1.fdiv (2 ^ min (nx l (wds l (adv l k) 4).2 64).toNat (IntKind.bits .u64))), adv l (wds l (adv l k) 4).2)
 else (nx l (adv l k) 2000 - 1000, adv l (adv l k))
set_option maxHeartbeats 2000000 in
theorem int_m (l : List Int) (k : Nat) (hl : Ints l) (hn : l.length ≤ 140737488351232) : Meets Tryz.prog 28 [.pt 0 0] [tb l k] (.r (.v (.int .i64 (itv l k).1))) [some (tb l (itv l k).2)] := by
 refine fn_of Tryz.func28 rfl (Nat.le_of_ble_eq_true rfl) rfl rfl ?_
 have h8 := nx_range l k (show (1 : Int) ≤ 8 by omega)
 have h4 := nx_range l (adv l k) (show (1 : Int) ≤ 4 by omega)
 have h2000 := nx_range l (adv l k) (show (1 : Int) ≤ 2000 by omega)
 have h64 := nx_range l (wds l (adv l k) 4).2 (show (1 : Int) ≤ 64 by omega)
 (repeat' (first | refine r_13f87e ?_ | (refine is_f 12 ?_; refine r_d3ed50 (next_m l k 8 hl hn (by omega)) ?_) | (refine is_f 12 ?_; refine r_d3ed50 (next_m l (adv l k) 4 hl hn (by omega)) ?_) | (refine is_f 12 ?_; refine r_d3ed50 (next_m l (adv l k) 2000 hl hn (by omega)) ?_) | (refine is_f 12 ?_; refine r_d3ed50 (next_m l (wds l (adv l k) 4).2 64 hl hn (by omega)) ?_) | (refine is_f 29 ?_; refine r_d3ed50 (word_m l (adv l k) hl hn) ?_) | (refine r_e4e690 (fun hb => ?_) (fun hb => ?_) <;> (try (exfalso; omega))) | fail))
 all_goals (unfold itv; (repeat' split) <;> (try (exfalso; omega)) <;> exact ret1P [] (.int rfl) rfl rfl (post_one rfl rfl) rfl)
end Go.Proofs.YtibedaeefnjjlaaGreat
