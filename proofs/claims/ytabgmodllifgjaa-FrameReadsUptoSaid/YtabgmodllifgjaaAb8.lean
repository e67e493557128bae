/- The second layer: words for lists of bytes and numbers, tests, and the end of a round. No conditions. -/
import Derived.Test.YtabgmodllifgjaaAb7
namespace Go.Ab
open Go.RowKit
set_option linter.unusedVariables false

/-! ## Elements -/
def bys (l : List UInt8) : List (List RV) := l.map fun b => [.v (.int .u8 (b.toNat : Int))]
def nums (k : IntKind) (l : List Int) : List (List RV) := l.map fun x => [.v (.int k x)]
theorem bys_len (l : List UInt8) : (bys l).length = l.length := by simp [bys]
theorem nums_len (k : IntKind) (l : List Int) : (nums k l).length = l.length := by simp [nums]
theorem bys_get {l : List UInt8} {j : Nat} (h : j < l.length) : (bys l)[j]? = some [.v (.int .u8 ((l.getD j 0).toNat : Int))] := by simp [bys, h]
theorem nums_get {k : IntKind} {l : List Int} {j : Nat} (h : j < l.length) : (nums k l)[j]? = some [.v (.int k (l.getD j 0))] := by simp [nums, h]
theorem bys_append (a b : List UInt8) : bys (a ++ b) = bys a ++ bys b := by simp [bys]
theorem nums_append (k : IntKind) (a b : List Int) : nums k (a ++ b) = nums k a ++ nums k b := by simp [nums]
theorem bys_take (a : List UInt8) (k : Nat) : bys (a.take k) = (bys a).take k := by simp [bys, List.map_take]
theorem bys_drop (a : List UInt8) (k : Nat) : bys (a.drop k) = (bys a).drop k := by simp [bys, List.map_drop]
theorem nums_take (q : IntKind) (a : List Int) (k : Nat) : nums q (a.take k) = (nums q a).take k := by simp [nums, List.map_take]
theorem nums_drop (q : IntKind) (a : List Int) (k : Nat) : nums q (a.drop k) = (nums q a).drop k := by simp [nums, List.map_drop]

/-! ## int's arithmetic on numbers that are counted -/
theorem i64_inc (a : Nat) (h : a < 9223372036854775807) : IntKind.i64.wrap ((a : Int) + 1) = ((a + 1 : Nat) : Int) := by rw [IntWalk.i64_in _ (by omega)]; omega
theorem i64_dec (a : Nat) (h : 0 < a) (h2 : a < 9223372036854775808) : IntKind.i64.wrap ((a : Int) - 1) = ((a - 1 : Nat) : Int) := by rw [IntWalk.i64_in _ (by omega)]; omega
theorem i64_addn (a b : Nat) (h : a + b < 9223372036854775808) : IntKind.i64.wrap ((a : Int) + (b : Int)) = ((a + b : Nat) : Int) := by rw [IntWalk.i64_in _ (by omega)]; omega
theorem i64_subn (a b : Nat) (h : b ≤ a) (h2 : a < 9223372036854775808) : IntKind.i64.wrap ((a : Int) - (b : Int)) = ((a - b : Nat) : Int) := by rw [IntWalk.i64_in _ (by omega)]; omega

section
variable {P : Program} {L : Ln} {N : Nat} {Q : Exit → St → Prop} {S : St}
theorem awp_condT {c : Operand} {x y : Code} (hc : evA S.envF c = .r (.v (.bool true))) (h : awp P L N x Q S) : awp P L N (.cond c x y) Q S := awp_cond hc (fun _ => h) (fun h => by cases h)
theorem awp_condF {c : Operand} {x y : Code} (hc : evA S.envF c = .r (.v (.bool false))) (h : awp P L N y Q S) : awp P L N (.cond c x y) Q S := awp_cond hc (fun h => by cases h) (fun _ => h)
end

/-! ## The end of a round -/
section
variable {S : St} {ρ : Nat → Nat} {G : List Nat} {t : Nat} {l : List (Nat × AV)}
theorem le_nil : eLe S ρ G [] := trivial
theorem le_na (h : eLe S ρ G l) : eLe S ρ G ((t, .na) :: l) := ⟨.na _, h⟩
theorem le_r {c c' : RV} (h : eLe S ρ G l) (e : c = c') (hx : get S.env t = .r c) : eLe S ρ G ((t, .r c') :: l) := by
  subst e; refine ⟨?_, h⟩; rw [show S.envF t = .r c from hx]; exact .r _
theorem le_int {k : IntKind} {m p : Int} (h : eLe S ρ G l) (e : m = p) (hx : get S.env t = .r (.v (.int k m))) : eLe S ρ G ((t, .r (.v (.int k p))) :: l) := le_r h (by rw [e]) hx
theorem le_bool {m p : Bool} (h : eLe S ρ G l) (e : m = p) (hx : get S.env t = .r (.v (.bool m))) : eLe S ρ G ((t, .r (.v (.bool p))) :: l) := le_r h (by rw [e]) hx
theorem le_sl {sz : Nat} {m p : List (List RV)} (h : eLe S ρ G l) (e : m = p) (hx : get S.env t = .r (.sl sz m)) : eLe S ρ G ((t, .r (.sl sz p)) :: l) := le_r h (by rw [e]) hx
theorem le_ow {i j : Nat} (h : eLe S ρ G l) (e : ρ i = j) (hx : get S.env t = .ow j) : eLe S ρ G ((t, .ow i) :: l) := by
  subst e; refine ⟨?_, h⟩; rw [show S.envF t = .ow (ρ i) from hx]; exact .ow _
theorem le_pt {i j o : Nat} (h : eLe S ρ G l) (e : ρ i = j) (hx : get S.env t = .pt j o) : eLe S ρ G ((t, .pt i o) :: l) := by
  subst e; refine ⟨?_, h⟩; rw [show S.envF t = .pt (ρ i) o from hx]; exact .pt _ _
theorem hl_nil : hLe S ρ G [] := trivial
theorem hl_row {i T sz : Nat} {es es' : List (List RV)} {l : List (Nat × Option Blk)} (h : hLe S ρ G l) (e : es = es') (hx : getH S.H (ρ i) = some (.row T sz es)) : hLe S ρ G ((i, some (.row T sz es')) :: l) := by
  subst e; exact ⟨⟨_, hx, .row _ _ _⟩, h⟩
theorem hl_full {i T sz : Nat} {es es' : List (List RV)} {l : List (Nat × Option Blk)} (h : hLe S ρ G l) (e : es = es') (hx : getH S.H (ρ i) = some (.full T sz es)) : hLe S ρ G ((i, some (.full T sz es')) :: l) := by
  subst e; exact ⟨⟨_, hx, .full _ _ _⟩, h⟩
end
end Go.Ab
