/- Texts of the second layer in one: Sm1 Tq3 Wr1. -/
import Derived.Test.YtibedaeefnjjlaaGreatG31
import Derived.Test.YtibedaeefnjjlaaGreatG32
import Derived.Test.YtibedaeefnjjlaaGreatG9
import Derived.Test.YtibedaeefnjjlaaGreatG4
import Derived.Test.YtibedaeefnjjlaaGreatG16
/- Chapter 21: the reference's Same at equal lists. Conditions: slopes within 256 bits. --ext8 -/
namespace Go.Proofs.YtibedaeefnjjlaaGreat
open Go.RowKit Go.Ab Go.Wd
set_option maxRecDepth 100000
set_option linter.unusedVariables false
set_option linter.unusedSimpArgs false

def grOs (gs : List Gr) : List (List RV) := gs.map grO
section
variable {env : Nat → AV} {H : Nat → Option Blk} {d : Option Tmp} {ty : TypeId} {pos : String} {af : Array Edge} {g : Option (Nat × Bool)} {u : TypeId} {x y : Operand}
end
def smO (gs : List Gr) (i : Nat) : St := ⟨[(0, .r (.sl 12 (grOs gs))), (1, .r (.sl 12 (grOs gs))), (5, .r (.v (.int .i64 (i : Int))))], [], 0⟩
def smI (gs : List Gr) (i k : Nat) : St := ⟨[(0, .r (.sl 12 (grOs gs))), (1, .r (.sl 12 (grOs gs))), (5, .r (.v (.int .i64 (i : Int)))), (6, .r (.v (.int .i64 (k : Int))))], [], 0⟩
end Go.Proofs.YtibedaeefnjjlaaGreat

/- What the tape hands out: Bool, Word, Int, Tolerance, Config. Conditions: a list of at most 2^47 numbers. -/
namespace Go.Proofs.YtibedaeefnjjlaaGreat
open Go.RowKit Go.Ab
set_option maxRecDepth 100000
set_option linter.unusedVariables false
set_option linter.unusedSimpArgs false

theorem post_one {S : St} {b : Blk} (h : getH S.H 0 = some b) (hi : b.ids = []) : ∀ i c, (i, some c) ∈ numdP 0 [some b] → getH S.H i = some c ∧ c.ids = [] := by
  intro i c hc
  simp only [numdP, List.mem_cons, List.not_mem_nil, or_false, Prod.mk.injEq, Option.some.injEq] at hc
  obtain ⟨rfl, rfl⟩ := hc
  exact ⟨h, hi⟩
/-- The word after j rounds, and the numbers taken. -/
def wds (l : List Int) (k : Nat) : Nat → Int × Nat
  | 0 => (0, k)
  | j + 1 => (IntKind.u64.wrap (IntKind.u64.wrap ((wds l k j).1 * 2 ^ min (Int.toNat 16) (IntKind.bits .u64)) + nx l (wds l k j).2 65536), adv l (wds l k j).2)
/-- A number, and the numbers taken. -/
def itv (l : List Int) (k : Nat) : Int × Nat :=
  if nx l k 8 = 0 then (IntKind.i64.wrap (wds l (adv l k) 4).1, (wds l (adv l k) 4).2)
  else if nx l k 8 = 1 then (9223372036854775807 - nx l (adv l k) 4, adv l (adv l k))
  else if nx l k 8 = 2 then (-9223372036854775808 + nx l (adv l k) 4, adv l (adv l k))
  else if nx l k 8 = 3 then (IntKind.i64.wrap ((wds l (adv l k) 4).1.fdiv (2 ^ min (nx l (wds l (adv l k) 4).2 64).toNat (IntKind.bits .u64))), adv l (wds l (adv l k) 4).2)
  else (nx l (adv l k) 2000 - 1000, adv l (adv l k))
end Go.Proofs.YtibedaeefnjjlaaGreat

/- The reference's magnitudes: add, sub. Conditions: lengths. --ext6 -/
namespace Go.Proofs.YtibedaeefnjjlaaGreat
open Go.RowKit Go.Ab Go.Wd
set_option maxRecDepth 100000
set_option linter.unusedVariables false
set_option linter.unusedSimpArgs false

/-- The sum in place: j rounds to go, i done. -/
def raG (b : List Nat) : Nat → Nat → Nat → List Nat → Nat × List Nat
  | 0, _, c, l => (c, l)
  | j + 1, i, c, l => raG b j (i + 1) ((l.getD i 0 + b.getD i 0 + c) / B64) (l.set i ((l.getD i 0 + b.getD i 0 + c) % B64))
/-- The difference in place. -/
def rsG (b : List Nat) : Nat → Nat → Nat → List Nat → Nat × List Nat
  | 0, _, c, l => (c, l)
  | j + 1, i, c, l => rsG b j (i + 1) (if l.getD i 0 < b.getD i 0 + c then 1 else 0) (l.set i ((l.getD i 0 + B64 - b.getD i 0 - c) % B64))
def raSB (b l : List Nat) (i c : Nat) : St := ⟨[(1, .r (.sl 1 (wns b))), (5, .ow 0), (6, .r (.v (.int .u64 (c : Int)))), (7, .r (.v (.int .i64 (i : Int))))], [(0, some (.row 33 1 (wns l)))], 1⟩
end Go.Proofs.YtibedaeefnjjlaaGreat
