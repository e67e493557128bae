/- Texts of the second layer in one: Wd10 Wd11 Tq1. -/
import Derived.Test.YtpnbgalbdohfgaaGreatDoorG9
import Derived.Test.YtpnbgalbdohfgaaGreatDoorG5
import Derived.Test.YtpnbgalbdohfgaaGreatDoorG8
import Derived.WalkKit
import Derived.WalkSpells
import Derived.WalkLawsBesides
set_option maxRecDepth 100000
set_option linter.unusedVariables false
set_option linter.unusedSimpArgs false
namespace Go.Proofs.YtpnbgalbdohfgaaGreatDoor
open Go.RowKit Go.Ab Go.Wd
theorem zlW (n : Nat) (hn : n < B64 ^ 4) : zaq Tryz.prog 65 [wd false n] [] (.r (.v (.bool true))) [] := by
 refine zaw Tryz.func65 rfl (Nat.le_of_ble_eq_true rfl) rfl rfl ?_
 (repeat' (first | refine zae ?_ | (refine zab (fun hb => ?_) (fun hb => ?_) <;> (try (exfalso; omega))) | fail))
 all_goals exact ret1 [] (.bool rfl) rfl rfl rfl
theorem zet (n : Nat) (hn : n < B64 ^ 4) : zaq Tryz.prog 43 [wd false n] [] (wd false n) [] := by
 refine zaw Tryz.func43 rfl (Nat.le_of_ble_eq_true rfl) rfl rfl ?_
 (repeat' (first | refine zae ?_ | (refine is_f 65 ?_; refine zaf (zlW n hn) ?_) | (refine zab (fun hb => ?_) (fun hb => ?_) <;> (try (exfalso; omega))) | fail))
 all_goals exact zcL [] (Rt.wd false n) rfl rfl rfl rfl (zan rfl) rfl
theorem zhO (n : Nat) (hn : n < B64 ^ 4) : zaq Tryz.prog 53 [.r (.v (.bool false)), w4 n] [] (wd false n) [] := by
 refine zaw Tryz.func53 rfl (Nat.le_of_ble_eq_true rfl) rfl rfl ?_
 (repeat' (first | refine zae ?_ | (refine is_f 43 ?_; refine zaf (zet n hn) ?_) | (refine zab (fun hb => ?_) (fun hb => ?_) <;> (try (exfalso; omega))) | fail))
 all_goals exact zcL [] (Rt.wd false n) rfl rfl rfl rfl (zan rfl) rfl
theorem zmc (n : Nat) (hn : n < B64) : zaq Tryz.prog 30 [.r (.v (.int .u64 (n : Int)))] [] (wd false n) [] := by
 have h1 : n / B64 = 0 := by unfold B64 at *; omega
 have h0 : n % B64 = n := Nat.mod_eq_of_lt hn
 have h2 : wd false n = .ag [.r (.v (.bool false)), .r (.v (.int .u64 (n : Int))), .r (.v (.int .u64 0)), .r (.v (.int .u64 0)), .r (.v (.int .u64 0))] := by
  unfold wd; rw [h1, h0]; rfl
 rw [h2]
 refine zaw Tryz.func30 rfl (Nat.le_of_ble_eq_true rfl) rfl rfl ?_
 (repeat' (first | refine zae ?_ | (refine zab (fun hb => ?_) (fun hb => ?_) <;> (try (exfalso; omega))) | fail))
 all_goals exact zcL [] (.ag _ _ _ (Rt.agR [.v (.bool false), .v (.int .u64 (n : Int)), .v (.int .u64 0), .v (.int .u64 0), .v (.int .u64 0)])) rfl rfl rfl rfl (zan rfl) rfl
theorem znX (m n : Nat) (hm : m < B64 ^ 4) (hn : n < B64 ^ 4) (hmn : m + n < B64 ^ 4) : zaq Tryz.prog 54 [wd false m, wd false n] [] (.tu [wd false (m + n), .r (.v (.bool true))]) [] := by
 refine zaw Tryz.func54 rfl (Nat.le_of_ble_eq_true rfl) rfl rfl ?_
 have cA := zn5 m n hm hn hmn
 have cS := zhO (m + n) hmn
 generalize m + n = p at *
 (repeat' (first | refine zae ?_ | (refine is_f 43 ?_; refine zaf (zet m hm) ?_) | (refine is_f 43 ?_; refine zaf (zet n hn) ?_) | (refine is_f 84 ?_; refine zaf (cA) ?_) | (refine is_f 53 ?_; refine zaf (cS) ?_) | (refine zab (fun hb => ?_) (fun hb => ?_) <;> (try (exfalso; omega))) | fail))
 all_goals (first | exact absurd rfl hb | exact zcc [] (Rt.wd false p) (.bool rfl) rfl rfl rfl rfl rfl (zan rfl) rfl)
theorem znY (m n : Nat) (hm : m < B64 ^ 4) (hn : n < B64 ^ 4) (hmn : m * n < B64 ^ 4) : zaq Tryz.prog 31 [wd false m, wd false n] [] (.tu [wd false (m * n), .r (.v (.bool true))]) [] := by
 refine zaw Tryz.func31 rfl (Nat.le_of_ble_eq_true rfl) rfl rfl ?_
 have cA := znI m n hm hn hmn
 have cS := zhO (m * n) hmn
 generalize m * n = p at *
 (repeat' (first | refine zae ?_ | (refine is_f 43 ?_; refine zaf (zet m hm) ?_) | (refine is_f 43 ?_; refine zaf (zet n hn) ?_) | (refine is_f 52 ?_; refine zaf (cA) ?_) | (refine is_f 53 ?_; refine zaf (cS) ?_) | (refine zab (fun hb => ?_) (fun hb => ?_) <;> (try (exfalso; omega))) | fail))
 all_goals (first | exact absurd rfl hb | exact zcc [] (Rt.wd false p) (.bool rfl) rfl rfl rfl rfl rfl (zan rfl) rfl)
theorem zl5 (m n : Nat) (hm : m < B64 ^ 4) (hn : n < B64 ^ 4) (hmn : m + n < B64 ^ 4) : zaq Tryz.prog 32 [wd false m, wd false n] [] (wd false (m + n)) [] := by
 refine zaw Tryz.func32 rfl (Nat.le_of_ble_eq_true rfl) rfl rfl ?_
 have cA := znX m n hm hn hmn
 generalize m + n = p at *
 (repeat' (first | refine zae ?_ | (refine is_f 54 ?_; refine zaf (cA) ?_) | (refine zab (fun hb => ?_) (fun hb => ?_) <;> (try (exfalso; omega))) | fail))
 all_goals exact zcL [] (Rt.wd false p) rfl rfl rfl rfl (zan rfl) rfl
end Go.Proofs.YtpnbgalbdohfgaaGreatDoor
namespace Go.Proofs.YtpnbgalbdohfgaaGreatDoor
open Go.RowKit Go.Ab
def modz (a n : Int) : Int := if n < 1 then 0 else a % n
theorem zjn (a : Int) {n : Int} (h : 1 ≤ n) : 0 ≤ modz a n ∧ modz a n < n := by
 unfold modz
 rw [if_neg (by omega)]
 exact ⟨Int.emod_nonneg _ (by omega), Int.emod_lt_of_pos _ (by omega)⟩
def Ints (l : List Int) : Prop := ∀ x ∈ l, -9223372036854775808 ≤ x ∧ x < 9223372036854775808
def nx (l : List Int) (k : Nat) (m : Int) : Int := modz (l.getD k 0) m
def adv (l : List Int) (k : Nat) : Nat := if k < l.length then k + 1 else k
theorem zaB (l : List Int) (k : Nat) {m : Int} (h : 1 ≤ m) : 0 ≤ nx l k m ∧ nx l k m < m := zjn _ h
abbrev tb (l : List Int) (k : Nat) : Blk := .var 41 [.r (.sl 1 (nums .i64 l)), .r (.v (.int .i64 (k : Int)))]
theorem zob (a n : Int) (ha : -9223372036854775808 ≤ a ∧ a < 9223372036854775808) (hn : -9223372036854775808 ≤ n ∧ n < 9223372036854775808) : zaq Tryz.prog 16 [.r (.v (.int .i64 a)), .r (.v (.int .i64 n))] [] (.r (.v (.int .i64 (modz a n)))) [] := by
 refine zaw Tryz.func16 rfl (Nat.le_of_ble_eq_true rfl) rfl rfl ?_
 have h0 : n < 1 → (0 : Int) = modz a n := fun h => by unfold modz; rw [if_pos h]
 have h1 : 1 ≤ n → (a.tmod n < 0 → IntKind.i64.wrap (a.tmod n + n) = modz a n) ∧ (¬ a.tmod n < 0 → a.tmod n = modz a n) := fun h => by
  have hmz : modz a n = a % n := by unfold modz; rw [if_neg (by omega)]
  rw [hmz]
  have e1 := Int.emod_nonneg a (show n ≠ 0 by omega)
  have e2 := Int.emod_lt_of_pos a (show 0 < n by omega)
  have e3 := Int.tmod_eq_emod (a := a) (b := n)
  refine ⟨fun hl => ?_, fun hl => ?_⟩
  ·rw [IntKind.wrap_i64]
   split at e3
   ·omega
   ·have := Int.natAbs_of_nonneg (show 0 ≤ n by omega)
    omega
  ·split at e3
   ·omega
   ·have := Int.natAbs_of_nonneg (show 0 ≤ n by omega)
    omega
 (repeat' (first | refine zae ?_ | (refine zab (fun hb => ?_) (fun hb => ?_) <;> (try (exfalso; omega))) | fail))
 all_goals (first | (exfalso; omega) | exact ret1 [] (.int (h0 (by omega))) rfl rfl rfl | exact ret1 [] (.int ((h1 (by omega)).1 (by assumption))) rfl rfl rfl | exact ret1 [] (.int ((h1 (by omega)).2 (by assumption))) rfl rfl rfl)
theorem zhC {S : St} {b : Blk} (h : getH S.H 0 = some b) (hi : b.ids = []) : ∀ i c, (i, some c) ∈ zbq 0 [some b] → getH S.H i = some c ∧ c.ids = [] := by
 intro i c hc
 simp only [zbq, List.mem_cons, List.not_mem_nil, or_false, Prod.mk.injEq, Option.some.injEq] at hc
 obtain ⟨rfl, rfl⟩ := hc
 exact ⟨h, hi⟩
theorem zaZ (l : List Int) (k : Nat) (m : Int) (hl : Ints l) (hn : l.length ≤ 140737488351232) (hm : -9223372036854775808 ≤ m ∧ m < 9223372036854775808) : zaq Tryz.prog 7 [.pt 0 0, .r (.v (.int .i64 m))] [tb l k] (.r (.v (.int .i64 (nx l k m)))) [some (tb l (adv l k))] := by
 refine zaw Tryz.func7 rfl (Nat.le_of_ble_eq_true rfl) rfl rfl ?_
 have hll := za5 .i64 l
 rcases Nat.lt_or_ge k l.length with hk | hk
 ·have hw1 : IntKind.i64.wrap ((k : Int) + 1) = ((k + 1 : Nat) : Int) := by rw [IntKind.wrap_i64]; omega
  have hw2 : IntKind.i64.wrap (((k + 1 : Nat) : Int) - 1) = (k : Int) := by rw [IntKind.wrap_i64]; omega
  have hg := zgQ (k := .i64) hk
  have hx : -9223372036854775808 ≤ l.getD k 0 ∧ l.getD k 0 < 9223372036854775808 := by
   have : l.getD k 0 = l[k] := by simp [hk]
   rw [this]; exact hl _ (List.getElem_mem hk)
  have ha : adv l k = k + 1 := by unfold adv; rw [if_pos hk]
  have hn : nx l k m = modz (l.getD k 0) m := rfl
  rw [ha, hn]
  (repeat' (first | refine zae ?_ | (refine is_f 16 ?_; refine zaf (zob (l.getD k 0) m hx hm) ?_) | (refine zab (fun hb => ?_) (fun hb => ?_) <;> (try (exfalso; omega))) | fail))
  all_goals (first | (exfalso; omega) | exact zbC [] (.int rfl) rfl rfl (zhC rfl rfl) rfl)
 ·have ha : adv l k = k := by unfold adv; rw [if_neg (by omega)]
  have hz : (0 : Int) = nx l k m := by
   unfold nx modz
   have : l.getD k 0 = 0 := by simp [hk]
   rw [this]; split <;> simp
  rw [ha, ← hz]
  (repeat' (first | refine zae ?_ | (refine zab (fun hb => ?_) (fun hb => ?_) <;> (try (exfalso; omega))) | fail))
  all_goals (first | (exfalso; omega) | exact zbC [] (.int rfl) rfl rfl (zhC rfl rfl) rfl)
theorem zmC (A : Option Addr) (n c : Nat) (w : World) : Calls Tryz.prog 4 #[.slice A n c] w fun e w' => e = .returned (.pointer (some ⟨w.heap.size, 0, none⟩)) ∧ w'.heap[w.heap.size]? = some (.cells #[.slice A n c, .int .i64 ((0 : Nat) : Int)] 41 (0, 0)) ∧ Below w.heap.size w w' := by
 go_enter Tryz.func4, Tryz.ntmps4
 go_wp2
 go_ret
 exact ⟨rfl, heap_alloc_new _ _, (Below.refl _ _).alloc (Nat.le_refl _) _⟩
theorem zoc (l : List Int) : znn Tryz.prog 4 [.r (.sl 1 (nums .i64 l))] 41 [.sl 1 (nums .i64 l), .v (.int .i64 ((0 : Nat) : Int))] := by
 intro w Z M us hM hargs
 simp only [AV.reps, AV.rep] at hargs
 obtain ⟨u, us', rfl, h1, rfl⟩ := hargs
 have h1' := h1
 rw [RV.rep] at h1
 obtain ⟨A, c, rfl, _⟩ := h1
 refine (zmC A _ c w).mono fun e w' ⟨he, ha, hb⟩ => ⟨_, _, he, Nat.le_refl _, ha, ?_, hb⟩
 exact .cons rfl (RV.rep_mono (Go.Ab.Upto.of_below hb) (fun q hq hq' => hq'.resolve_right (by omega)) _ _ h1') (.cons rfl (by rw [RV.rep]) .nil)
end Go.Proofs.YtpnbgalbdohfgaaGreatDoor
