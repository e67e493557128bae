/- Texts of the second layer in one: Sm1 Tq3 Wr1. -/
import Derived.Test.YtibedaeefnjjlaaGreatG31
import Derived.Test.YtibedaeefnjjlaaGreatG32
import Derived.Test.YtibedaeefnjjlaaGreatG9
import Derived.Test.YtibedaeefnjjlaaGreatG4
import Derived.Test.YtibedaeefnjjlaaGreatG16
/- Chapter 21: the reference's Same at equal lists. Conditions: slopes within 256 bits. --ext8 -/
namespace Go.Proofs.YtibedaeefnjjlaaGreat
open Go.RowKit Go.Ab Go.Wd
set_option maxRecDepth 100000
set_option linter.unusedVariables false
set_option linter.unusedSimpArgs false

def grOs (gs : List Gr) : List (List RV) := gs.map grO
section
variable {env : Nat → AV} {H : Nat → Option Blk} {d : Option Tmp} {ty : TypeId} {pos : String} {af : Array Edge} {g : Option (Nat × Bool)} {u : TypeId} {x y : Operand}
theorem p_neqrt (p q : Int) (h1 : W4 p) (h2 : W4 q) (hx : evA env x = rt p q) (hy : evA env y = rt p q) : ReadOk Tryz.prog ⟨d, .binOp .neq 38 x y u, ty, pos, af, g⟩ env H [] (.r (.v (.bool false))) := by
  have h := p_neqR (H := H) (d := d) (ty := ty) (pos := pos) (af := af) (g := g) (u := u) (x := x) (y := y) (vs := rtVs p q) (us := rtVs p q) (by kernel_rfl) (eqr_rt (d := 9996) h1 h2 h1 h2) hx hy
  simpa using h
end
def smO (gs : List Gr) (i : Nat) : St := ⟨[(0, .r (.sl 12 (grOs gs))), (1, .r (.sl 12 (grOs gs))), (5, .r (.v (.int .i64 (i : Int))))], [], 0⟩
def smI (gs : List Gr) (i k : Nat) : St := ⟨[(0, .r (.sl 12 (grOs gs))), (1, .r (.sl 12 (grOs gs))), (5, .r (.v (.int .i64 (i : Int)))), (6, .r (.v (.int .i64 (k : Int))))], [], 0⟩
set_option maxHeartbeats 4000000 in
theorem same_m (gs : List Gr) (hl : gs.length ≤ 1000000) (hs : ∀ g ∈ gs, g.ss.length ≤ 1000000 ∧ W4 (chC g.c).1 ∧ W4 (chC g.c).2) : Meets Tryz.prog 17 [.r (.sl 12 (grOs gs)), .r (.sl 12 (grOs gs))] [] (.r (.v (.bool true))) [] := by
  have hlen : (grOs gs).length = gs.length := by simp [grOs]
  refine fn_of Tryz.func17 rfl (Nat.le_of_ble_eq_true rfl) rfl rfl ?_
  (repeat' (first | refine r_95e112 ?_ | (refine r_48b933 (fun hb => ?_) (fun hb => ?_) <;> (try (exfalso; omega))) | (refine awp_cond rfl (fun hb => ?_) (fun hb => ?_) <;> (try simp only [Bool.not_eq_true', Bool.not_eq_false', decide_eq_true_eq, decide_eq_false_iff_not] at hb) <;> (try (exfalso; omega)))))
  refine awp_loop' (smO gs) (fun i => i ≤ gs.length) (fun i => gs.length - i) 0 (Nat.zero_le _) (by (refine Le.mk [] [] q_5ec36 q_871b6 q_bbfed q_509a2)) fun i hi => ?_
  rcases Nat.lt_or_ge i gs.length with hlt | hge
  · obtain ⟨g, hg⟩ : ∃ g, gs[i]? = some g := ⟨_, List.getElem?_eq_getElem hlt⟩
    obtain ⟨hg1, hg2, hg3⟩ := hs g (List.mem_of_getElem? hg)
    have hgO : (grOs gs)[i]? = some (grO g) := by unfold grOs; rw [List.getElem?_map, hg]; rfl
    have hsl : (nums .i64 (sortZ g.ss)).length = g.ss.length := by rw [nums_len]; exact (List.mergeSort_perm _ _).length_eq
    have hwi : IntKind.i64.wrap ((i : Int) + 1) = ((i + 1 : Nat) : Int) := nat_incI i (by omega)
    (repeat' (first | (refine is_bin ?_; refine is_b_neq ?_; refine w_read rfl q_85eb5 (p_neqrt _ _ hg2 hg3 rfl rfl) ?_) | (refine is_load ?_; refine w_read rfl q_85eb5 (p_loadNp rfl (Nat.le_of_ble_eq_true rfl)) ?_) | refine r_95e112 ?_ | (refine r_48b933 (fun hb => ?_) (fun hb => ?_) <;> (try (exfalso; omega))) | (refine awp_cond rfl (fun hb => ?_) (fun hb => ?_) <;> (try simp only [Bool.not_eq_true', Bool.not_eq_false', decide_eq_true_eq, decide_eq_false_iff_not] at hb) <;> (try (exfalso; omega)))))
    refine awp_loop' (smI gs i) (fun k => k ≤ g.ss.length) (fun k => g.ss.length - k) 0 (Nat.zero_le _) (by (refine Le.mk [] [] q_5ec36 q_871b6 q_bbfed q_509a2)) fun k hk => ?_
    have hzl : (sortZ g.ss).length = g.ss.length := (List.mergeSort_perm _ _).length_eq
    rcases Nat.lt_or_ge k g.ss.length with hlt2 | hge2
    · obtain ⟨z, hz⟩ : ∃ z, (sortZ g.ss)[k]? = some z := ⟨_, List.getElem?_eq_getElem (by omega)⟩
      have hzO : (nums .i64 (sortZ g.ss))[k]? = some [.v (.int .i64 z)] := by unfold nums; rw [List.getElem?_map, hz]; rfl
      have hwk : IntKind.i64.wrap ((k : Int) + 1) = ((k + 1 : Nat) : Int) := nat_incI k (by omega)
      (repeat' (first | refine r_95e112 ?_ | (refine r_48b933 (fun hb => ?_) (fun hb => ?_) <;> (try (exfalso; omega))) | (refine awp_cond rfl (fun hb => ?_) (fun hb => ?_) <;> (try simp only [Bool.not_eq_true', Bool.not_eq_false', decide_eq_true_eq, decide_eq_false_iff_not] at hb) <;> (try (exfalso; omega)))))
      all_goals (first | (exfalso; omega) | exact ⟨k + 1, hlt2, by (refine Le.mk [] [] q_5ec36 q_871b6 q_bbfed q_509a2), by show g.ss.length - (k + 1) < g.ss.length - k; omega⟩)
    · (repeat' (first | refine r_95e112 ?_ | (refine r_48b933 (fun hb => ?_) (fun hb => ?_) <;> (try (exfalso; omega))) | (refine awp_cond rfl (fun hb => ?_) (fun hb => ?_) <;> (try simp only [Bool.not_eq_true', Bool.not_eq_false', decide_eq_true_eq, decide_eq_false_iff_not] at hb) <;> (try (exfalso; omega)))))
      all_goals (first | (exfalso; omega) | exact ⟨i + 1, hlt, by (refine Le.mk [] [] q_5ec36 q_871b6 q_bbfed q_509a2), by show gs.length - (i + 1) < gs.length - i; omega⟩)
  · (repeat' (first | refine r_95e112 ?_ | (refine r_48b933 (fun hb => ?_) (fun hb => ?_) <;> (try (exfalso; omega))) | (refine awp_cond rfl (fun hb => ?_) (fun hb => ?_) <;> (try simp only [Bool.not_eq_true', Bool.not_eq_false', decide_eq_true_eq, decide_eq_false_iff_not] at hb) <;> (try (exfalso; omega)))))
    all_goals (first | (exfalso; omega) | exact ret1 [] (.bool rfl) rfl rfl rfl)
end Go.Proofs.YtibedaeefnjjlaaGreat

/- What the tape hands out: Bool, Word, Int, Tolerance, Config. Conditions: a list of at most 2^47 numbers. -/
namespace Go.Proofs.YtibedaeefnjjlaaGreat
open Go.RowKit Go.Ab
set_option maxRecDepth 100000
set_option linter.unusedVariables false
set_option linter.unusedSimpArgs false

theorem post_one {S : St} {b : Blk} (h : getH S.H 0 = some b) (hi : b.ids = []) : ∀ i c, (i, some c) ∈ numdP 0 [some b] → getH S.H i = some c ∧ c.ids = [] := by
  intro i c hc
  simp only [numdP, List.mem_cons, List.not_mem_nil, or_false, Prod.mk.injEq, Option.some.injEq] at hc
  obtain ⟨rfl, rfl⟩ := hc
  exact ⟨h, hi⟩
/-- The word after j rounds, and the numbers taken. -/
def wds (l : List Int) (k : Nat) : Nat → Int × Nat
  | 0 => (0, k)
  | j + 1 => (IntKind.u64.wrap (IntKind.u64.wrap ((wds l k j).1 * 2 ^ min (Int.toNat 16) (IntKind.bits .u64)) + nx l (wds l k j).2 65536), adv l (wds l k j).2)
/-- A number, and the numbers taken. -/
def itv (l : List Int) (k : Nat) : Int × Nat :=
  if nx l k 8 = 0 then (IntKind.i64.wrap (wds l (adv l k) 4).1, (wds l (adv l k) 4).2)
  else if nx l k 8 = 1 then (9223372036854775807 - nx l (adv l k) 4, adv l (adv l k))
  else if nx l k 8 = 2 then (-9223372036854775808 + nx l (adv l k) 4, adv l (adv l k))
  else if nx l k 8 = 3 then (IntKind.i64.wrap ((wds l (adv l k) 4).1.fdiv (2 ^ min (nx l (wds l (adv l k) 4).2 64).toNat (IntKind.bits .u64))), adv l (wds l (adv l k) 4).2)
  else (nx l (adv l k) 2000 - 1000, adv l (adv l k))
end Go.Proofs.YtibedaeefnjjlaaGreat

/- The reference's magnitudes: add, sub. Conditions: lengths. --ext6 -/
namespace Go.Proofs.YtibedaeefnjjlaaGreat
open Go.RowKit Go.Ab Go.Wd
set_option maxRecDepth 100000
set_option linter.unusedVariables false
set_option linter.unusedSimpArgs false

/-- The sum in place: j rounds to go, i done. -/
def raG (b : List Nat) : Nat → Nat → Nat → List Nat → Nat × List Nat
  | 0, _, c, l => (c, l)
  | j + 1, i, c, l => raG b j (i + 1) ((l.getD i 0 + b.getD i 0 + c) / B64) (l.set i ((l.getD i 0 + b.getD i 0 + c) % B64))
/-- The difference in place. -/
def rsG (b : List Nat) : Nat → Nat → Nat → List Nat → Nat × List Nat
  | 0, _, c, l => (c, l)
  | j + 1, i, c, l => rsG b j (i + 1) (if l.getD i 0 < b.getD i 0 + c then 1 else 0) (l.set i ((l.getD i 0 + B64 - b.getD i 0 - c) % B64))
def raSB (b l : List Nat) (i c : Nat) : St := ⟨[(1, .r (.sl 1 (wns b))), (5, .ow 0), (6, .r (.v (.int .u64 (c : Int)))), (7, .r (.v (.int .i64 (i : Int))))], [(0, some (.row 33 1 (wns l)))], 1⟩
end Go.Proofs.YtibedaeefnjjlaaGreat
