/- Texts of the second layer in one: Tq3. -/
import Derived.Test.YtibedaeefnjjlaaGreatG8
import Derived.Test.YtibedaeefnjjlaaGreatG3
set_option maxHeartbeats 2000000
set_option maxRecDepth 100000
set_option linter.unusedVariables false
set_option linter.unusedSimpArgs false
namespace Go.Proofs.YtibedaeefnjjlaaGreat
open Go.RowKit Go.Ab
theorem zbN {S : St} {b : Blk} (h : getH S.H 0 = some b) (hi : b.ids = []) : ∀ i c, (i, some c) ∈ zbu 0 [some b] → getH S.H i = some c ∧ c.ids = [] := by
 intro i c hc
 simp only [zbu, List.mem_cons, List.not_mem_nil, or_false, Prod.mk.injEq, Option.some.injEq] at hc
 obtain ⟨rfl, rfl⟩ := hc
 exact ⟨h, hi⟩
theorem zh5 (l : List Int) (k : Nat) (hl : Ints l) (hn : l.length ≤ 140737488351232) : zan Tryz.prog 20 [.pt 0 0, .r (.v (.int .i64 4))] [tb l k] (.r (.v (.bool (decide (nx l k 4 = 1))))) [some (tb l (adv l k))] := by
 refine zap Tryz.func20 rfl (Nat.le_of_ble_eq_true rfl) rfl rfl ?_
 (repeat' (first | refine zgL ?_ | (refine is_f 12 ?_; refine zek (za3 l k 4 hl hn (by omega)) ?_) | (refine zgN (fun hb => ?_) (fun hb => ?_) <;> (try (exfalso; omega))) | fail))
 all_goals exact zdl [] (.bool (by have e : Int.tmod 1 4 = 1 := by decide
                                   rw [e] at hb; simp [hb])) rfl rfl (zbN rfl rfl) rfl
def wds (l : List Int) (k : Nat) : Nat → Int × Nat
 | 0 => (0, k)
 | j + 1 => (IntKind.u64.wrap (IntKind.u64.wrap ((wds l k j).1 * 2 ^ min (Int.toNat 16) (IntKind.bits .u64)) + nx l (wds l k j).2 65536), adv l (wds l k j).2)
theorem ziD (l : List Int) (k : Nat) (hl : Ints l) (hn : l.length ≤ 140737488351232) : zan Tryz.prog 29 [.pt 0 0] [tb l k] (.r (.v (.int .u64 (wds l k 4).1))) [some (tb l (wds l k 4).2)] := by
 refine zap Tryz.func29 rfl (Nat.le_of_ble_eq_true rfl) rfl rfl ?_
 (repeat' (first | refine zgL ?_ | (refine zgN (fun hb => ?_) (fun hb => ?_) <;> (try (exfalso; omega))) | fail))
 refine zas (fun j => ⟨[(0, .pt 0 0), (3, .r (.v (.int .u64 (wds l k j).1))), (4, .r (.v (.int .i64 (j : Int))))], [(0, some (tb l (wds l k j).2))], 1⟩) (fun j => j ≤ 4) (fun j => 4 - j) 0 (Nat.zero_le _) (by (refine Le.mk [] [] rfl ?_ ?_ zoH <;> (repeat' (first | (first | exact zaX | refine zbQ ?_ | refine le_r ?_ rfl rfl | refine za9 ?_ (by omega) rfl | refine zbR ?_ rfl rfl | refine zbS ?_ rfl rfl | refine zbH ?_ rfl zaN rfl rfl) | exact zbq | refine zby ?_ rfl rfl | refine zg9 ?_ rfl rfl | refine zc4 ?_ ?_ rfl | refine zbt ?_ rfl | refine zdx ?_ (by omega) | exact CfL.nil)))) fun j hj => ?_
 have hx := zau l (wds l k j).2 (show (1 : Int) ≤ 65536 by omega)
 (repeat' (first | refine zgL ?_ | (refine is_f 12 ?_; refine zek (za3 l (wds l k j).2 65536 hl hn (by omega)) ?_) | (refine zgN (fun hb => ?_) (fun hb => ?_) <;> (try (exfalso; omega))) | fail))
 ·exact ⟨j + 1, by omega, by (refine Le.mk [] [] rfl ?_ ?_ zoH <;> (repeat' (first | (first | exact zaX | refine zbQ ?_ | refine le_r ?_ rfl rfl | refine za9 ?_ (by omega) rfl | refine zbR ?_ rfl rfl | refine zbS ?_ rfl rfl | refine zbH ?_ rfl zaN rfl rfl) | exact zbq | refine zby ?_ rfl rfl | refine zg9 ?_ rfl rfl | refine zc4 ?_ ?_ rfl | refine zbt ?_ rfl | refine zdx ?_ (by omega) | exact CfL.nil))), by omega⟩
 ·obtain rfl : j = 4 := by omega
  exact zdl [] (.int rfl) rfl rfl (zbN rfl rfl) rfl
def itv (l : List Int) (k : Nat) : Int × Nat :=
 if nx l k 8 = 0 then (IntKind.i64.wrap (wds l (adv l k) 4).1, (wds l (adv l k) 4).2)
 else if nx l k 8 = 1 then (9223372036854775807 - nx l (adv l k) 4, adv l (adv l k))
 else if nx l k 8 = 2 then (-9223372036854775808 + nx l (adv l k) 4, adv l (adv l k))
 else if nx l k 8 = 3 then (IntKind.i64.wrap ((wds l (adv l k) 4).1.fdiv (2 ^ min (nx l (wds l (adv l k) 4).2 64).toNat (IntKind.bits .u64))), adv l (wds l (adv l k) 4).2)
 else (nx l (adv l k) 2000 - 1000, adv l (adv l k))
theorem zrF (l : List Int) (k : Nat) (hl : Ints l) (hn : l.length ≤ 140737488351232) : zan Tryz.prog 28 [.pt 0 0] [tb l k] (.r (.v (.int .i64 (itv l k).1))) [some (tb l (itv l k).2)] := by
 refine zap Tryz.func28 rfl (Nat.le_of_ble_eq_true rfl) rfl rfl ?_
 have h8 := zau l k (show (1 : Int) ≤ 8 by omega)
 have h4 := zau l (adv l k) (show (1 : Int) ≤ 4 by omega)
 have h2000 := zau l (adv l k) (show (1 : Int) ≤ 2000 by omega)
 have h64 := zau l (wds l (adv l k) 4).2 (show (1 : Int) ≤ 64 by omega)
 (repeat' (first | refine zgL ?_ | (refine is_f 12 ?_; refine zek (za3 l k 8 hl hn (by omega)) ?_) | (refine is_f 12 ?_; refine zek (za3 l (adv l k) 4 hl hn (by omega)) ?_) | (refine is_f 12 ?_; refine zek (za3 l (adv l k) 2000 hl hn (by omega)) ?_) | (refine is_f 12 ?_; refine zek (za3 l (wds l (adv l k) 4).2 64 hl hn (by omega)) ?_) | (refine is_f 29 ?_; refine zek (ziD l (adv l k) hl hn) ?_) | (refine zgN (fun hb => ?_) (fun hb => ?_) <;> (try (exfalso; omega))) | fail))
 all_goals (unfold itv; (repeat' split) <;> (try (exfalso; omega)) <;> exact zdl [] (.int rfl) rfl rfl (zbN rfl rfl) rfl)
end Go.Proofs.YtibedaeefnjjlaaGreat
