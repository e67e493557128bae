/- Texts of the second layer in one: Tq3. -/
import Derived.Test.YtibedaeefnjjlaaGreatG14
import Derived.Test.YtibedaeefnjjlaaGreatG9
/- What the tape hands out: Bool, Word, Int, Tolerance, Config. Conditions: a list of at most 2^47 numbers. -/
namespace Go.Proofs.YtibedaeefnjjlaaGreat
open Go.RowKit Go.Ab
set_option maxRecDepth 100000
set_option linter.unusedVariables false
set_option linter.unusedSimpArgs false

theorem post_one {S : St} {b : Blk} (h : getH S.H 0 = some b) (hi : b.ids = []) : ∀ i c, (i, some c) ∈ numdP 0 [some b] → getH S.H i = some c ∧ c.ids = [] := by
  intro i c hc
  simp only [numdP, List.mem_cons, List.not_mem_nil, or_false, Prod.mk.injEq, Option.some.injEq] at hc
  obtain ⟨rfl, rfl⟩ := hc
  exact ⟨h, hi⟩
/-- The word after j rounds, and the numbers taken. -/
def wds (l : List Int) (k : Nat) : Nat → Int × Nat
  | 0 => (0, k)
  | j + 1 => (IntKind.u64.wrap (IntKind.u64.wrap ((wds l k j).1 * 2 ^ min (Int.toNat 16) (IntKind.bits .u64)) + nx l (wds l k j).2 65536), adv l (wds l k j).2)
/-- A number, and the numbers taken. -/
def itv (l : List Int) (k : Nat) : Int × Nat :=
  if nx l k 8 = 0 then (IntKind.i64.wrap (wds l (adv l k) 4).1, (wds l (adv l k) 4).2)
  else if nx l k 8 = 1 then (9223372036854775807 - nx l (adv l k) 4, adv l (adv l k))
  else if nx l k 8 = 2 then (-9223372036854775808 + nx l (adv l k) 4, adv l (adv l k))
  else if nx l k 8 = 3 then (IntKind.i64.wrap ((wds l (adv l k) 4).1.fdiv (2 ^ min (nx l (wds l (adv l k) 4).2 64).toNat (IntKind.bits .u64))), adv l (wds l (adv l k) 4).2)
  else (nx l (adv l k) 2000 - 1000, adv l (adv l k))
end Go.Proofs.YtibedaeefnjjlaaGreat
