/- Texts of the second layer in one: Wd2 Wd3 Wd4 Wd5 Wd6. -/
import Derived.Test.YtibedaeefnjjlaaGreatG5
import Derived.Test.YtibedaeefnjjlaaGreatG7
import Derived.Test.YtibedaeefnjjlaaGreatG16
import Derived.Lib.Mul64
import Derived.Laws.Bits64b
import Derived.Laws.Externs
import Derived.Test.YtibedaeefnjjlaaGreatG6
import Derived.Test.YtibedaeefnjjlaaGreatG8
set_option maxRecDepth 100000
set_option linter.unusedVariables false
set_option linter.unusedSimpArgs false
namespace Go.Proofs.YtibedaeefnjjlaaGreat
open Go.RowKit Go.Ab Go.Wd
theorem u64_mask (a : Nat) (ha : a < 18446744073709551616) : bits .and .u64 (a : Int) 4294967295 = ((a % 4294967296 : Nat) : Int) := by
 have h := bits_and_u64_nat a 4294967295 ha (by omega)
 have e : a &&& 4294967295 = a % 4294967296 := Nat.and_two_pow_sub_one_eq_mod a 32
 rw [e] at h
 exact h
theorem u64_half (a : Nat) : (a : Int).fdiv (2 ^ (min (32 : Int).toNat (IntKind.bits .u64))) = ((a / 4294967296 : Nat) : Int) := by
 rw [show min (32 : Int).toNat (IntKind.bits .u64) = 32 from rfl, Int.fdiv_eq_ediv_of_nonneg _ (by omega)]
 omega
theorem u64_mulN (a b : Nat) (h : a * b < 18446744073709551616) : IntKind.u64.wrap ((a : Int) * (b : Int)) = ((a * b : Nat) : Int) := by
 rw [← Int.natCast_mul, IntKind.wrap_u64]; omega
theorem u64_addN (a b : Nat) (h : a + b < 18446744073709551616) : IntKind.u64.wrap ((a : Int) + (b : Int)) = ((a + b : Nat) : Int) := by
 rw [IntKind.wrap_u64]; omega
theorem u64_mulM (a b : Nat) : IntKind.u64.wrap ((a : Int) * (b : Int)) = ((a * b % 18446744073709551616 : Nat) : Int) := by
 rw [← Int.natCast_mul, IntKind.wrap_u64]; omega
theorem mul64_m (x y : Nat) (hx : x < B64) (hy : y < B64) : Meets Tryz.prog 116 [.r (.v (.int .u64 (x : Int))), .r (.v (.int .u64 (y : Int)))] [] (.tu [.r (.v (.int .u64 ((x * y / B64 : Nat) : Int))), .r (.v (.int .u64 ((x * y % B64 : Nat) : Int)))]) [] := by
 refine fn_of Tryz.func116 rfl (Nat.le_of_ble_eq_true rfl) rfl rfl ?_
 obtain ⟨bd, bt, bw, hhi⟩ := Lib.mul64_hi x y hx hy
 have ba := Lib.half_mul_le (a := x / 4294967296) (b := y / 4294967296) (by unfold B64 at *; omega) (by unfold B64 at *; omega)
 have bb := Lib.half_mul_le (a := x / 4294967296) (b := y % 4294967296) (by unfold B64 at *; omega) (by omega)
 have bc := Lib.half_mul_le (a := x % 4294967296) (b := y / 4294967296) (by omega) (by unfold B64 at *; omega)
 have m1 := u64_mask x hx
 have m2 := u64_mask y hy
 have s1 := u64_half x
 have s2 := u64_half y
 have p4 := u64_mulM x y
 generalize hx0 : x % 4294967296 = x0 at *
 generalize hx1 : x / 4294967296 = x1 at *
 generalize hy0 : y % 4294967296 = y0 at *
 generalize hy1 : y / 4294967296 = y1 at *
 have p1 := u64_mulN x0 y0 (by omega)
 have p2 := u64_mulN x1 y0 (by omega)
 have p3 := u64_mulN x0 y1 (by omega)
 have p5 := u64_mulN x1 y1 (by omega)
 have s3 := u64_half (x0 * y0)
 have a1 := u64_addN (x1 * y0) (x0 * y0 / 4294967296) bt
 generalize x1 * y0 + x0 * y0 / 4294967296 = tt at *
 have m3 := u64_mask tt bt
 have s4 := u64_half tt
 have a2 := u64_addN (tt % 4294967296) (x0 * y1) bw
 generalize tt % 4294967296 + x0 * y1 = w1 at *
 have s5 := u64_half w1
 have a3 := u64_addN (x1 * y1) (tt / 4294967296) (by omega)
 have a4 := u64_addN (x1 * y1 + tt / 4294967296) (w1 / 4294967296) (by omega)
 rw [hhi] at a4
 generalize x1 * y1 + tt / 4294967296 = v at *
 generalize x0 * y1 = q1 at *
 generalize x1 * y1 = q2 at *
 generalize x1 * y0 = q3 at *
 generalize x0 * y0 = q4 at *
 (repeat' (first | refine r_4eabd4 ?_ | (refine r_0efca5 (fun hb => ?_) (fun hb => ?_) <;> (try (exfalso; omega))) | fail))
 all_goals exact ret2 [] (.int rfl) (.int rfl) rfl rfl rfl rfl
section
variable {env : Nat → AV} {H : Nat → Option Blk} {d : Option Tmp} {ty : TypeId} {pos : String} {af : Array Edge} {g : Option (Nat × Bool)} {x y z : Operand} {t1 t2 t3 : TypeId}
theorem p_add64 {a b c : Nat} (hx : evA env x = .r (.v (.int .u64 (a : Int)))) (hy : evA env y = .r (.v (.int .u64 (b : Int)))) (hz : evA env z = .r (.v (.int .u64 (c : Int)))) (hc : c ≤ 1) :
  ReadOk Tryz.prog ⟨d, .call { callee := .value (.func 117), args := #[x, y, z], argTypes := #[t1, t2, t3] }, ty, pos, af, g⟩ env H [] (.tu [.r (.v (.int .u64 (((a + b + c) % B64 : Nat) : Int))), .r (.v (.int .u64 (((a + b + c) / B64 : Nat) : Int)))]) := by
 refine ⟨fun i b h => by simp at h, fun i hi => by simp [AV.ids, AV.idss] at hi, fun ac w Z M hr _ => ?_⟩
 have h1 := ev_v hx (hr x (by simp [Op.operands, Call.operands]))
 have h2 := ev_v hy (hr y (by simp [Op.operands, Call.operands]))
 have h3 := ev_v hz (hr z (by simp [Op.operands, Call.operands]))
 have hrun : (callFunc 117 #[.int .u64 (a : Int), .int .u64 (b : Int), .int .u64 (c : Int)]).run Tryz.prog w = .ok (.value (.tuple #[.int .u64 (((a + b + c) % B64 : Nat) : Int), .int .u64 (((a + b + c) / B64 : Nat) : Int)])) w := by
  rw [run_callFunc_extern Tryz.func117 (by kernel_rfl) (by kernel_rfl) (by kernel_rfl) (e := add64Entry) (by kernel_rfl), run_add64 a b c (by omega) (by omega) (by omega) (by omega)]
  simp only [Result.andThen]
  congr 5 <;> (unfold B64; omega)
 refine ⟨_, ?_, by rw [AV.rep]; exact ⟨_, rfl, by simp only [AV.reps, AV.rep, RV.rep]; exact ⟨_, _, rfl, rfl, _, _, rfl, rfl, rfl⟩⟩⟩
 have h4 : ac.eval (.func 117) = .func (.func 117) #[] #[] := rfl
 simp only [execOp, resolve, h4, Deferred.ofValue, Sem.run_bind, Sem.run_pure, Result.andThen_ok, invoke, List.map_toArray, List.map_cons, List.map_nil, h1, h2, h3]
 simpa using hrun
theorem p_add64z {a b : Nat} (hx : evA env x = .r (.v (.int .u64 (a : Int)))) (hy : evA env y = .r (.v (.int .u64 (b : Int)))) (hz : evA env z = .r (.v (.int .u64 0))) :
  ReadOk Tryz.prog ⟨d, .call { callee := .value (.func 117), args := #[x, y, z], argTypes := #[t1, t2, t3] }, ty, pos, af, g⟩ env H [] (.tu [.r (.v (.int .u64 (((a + b) % B64 : Nat) : Int))), .r (.v (.int .u64 (((a + b) / B64 : Nat) : Int)))]) :=
 p_add64 (c := 0) hx hy hz (by omega)
end
end Go.Proofs.YtibedaeefnjjlaaGreat
namespace Go.Proofs.YtibedaeefnjjlaaGreat
open Go.RowKit Go.Ab Go.Wd
def wns (l : List Nat) : List (List RV) := l.map fun (a : Nat) => [.v (.int .u64 (a : Int))]
theorem wns_len (l : List Nat) : (wns l).length = l.length := by unfold wns; simp
theorem wns_get {l : List Nat} {i : Nat} (h : i < l.length) : (wns l)[i]? = some [.v (.int .u64 (l.getD i 0 : Nat))] := by unfold wns; simp [h]
theorem wns_take (l : List Nat) (k : Nat) : (wns l).take k = wns (l.take k) := by unfold wns; rw [List.map_take]
theorem wns_append (l m : List Nat) : wns (l ++ m) = wns l ++ wns m := by unfold wns; rw [List.map_append]
theorem wns_set (l : List Nat) (i v : Nat) : (wns l).set i [.v (.int .u64 (v : Int))] = wns (l.set i v) := by unfold wns; rw [List.map_set]
theorem i64_len1 (n : Nat) (h : n < 9223372036854775808) : IntKind.i64.wrap (((n + 1 : Nat) : Int) - 1) = (n : Int) := by rw [IntKind.wrap_i64]; omega
def trS (l : List Nat) : St := ⟨[(0, .r (.sl 1 (wns l)))], [], 0⟩
theorem last_cases (l : List Nat) : l = [] ∨ ∃ m a, l = m ++ [a] := by
 rcases List.eq_nil_or_concat l with h | ⟨m, a, h⟩
 ·exact .inl h
 ·exact .inr ⟨m, a, by simpa using h⟩
theorem trim_m (l : List Nat) (hl : l.length ≤ 9223372036854775800) : Meets Tryz.prog 115 [.r (.sl 1 (wns l))] [] (.r (.sl 1 (wns (trim l)))) [] := by
 refine fn_of Tryz.func115 rfl (Nat.le_of_ble_eq_true rfl) rfl rfl ?_
 (repeat' (first | refine r_4eabd4 ?_ | (refine r_0efca5 (fun hb => ?_) (fun hb => ?_) <;> (try (exfalso; omega))) | fail))
 refine awp_loop' trS (fun x => trim x = trim l ∧ x.length ≤ l.length) (fun x => x.length) l ⟨rfl, Nat.le_refl _⟩ (by (refine Le.mk [] [] q_5ec36 q_43730 q_16bb5 q_509a2)) fun x hx => ?_
 obtain ⟨hx, hxl⟩ := hx
 rcases last_cases x with rfl | ⟨m, a, rfl⟩
 ·rw [← hx]
  have h0 : (wns []).length = 0 := rfl
  (repeat' (first | refine r_4eabd4 ?_ | (refine r_0efca5 (fun hb => ?_) (fun hb => ?_) <;> (try (exfalso; omega))) | fail))
  all_goals (first | exact ret1 [] (.r _) rfl rfl rfl | (exfalso; omega))
 ·have hlen : (wns (m ++ [a])).length = m.length + 1 := by rw [wns_len]; simp
  have hml : m.length + 1 ≤ l.length := by simpa using hxl
  have hw : IntKind.i64.wrap (((wns (m ++ [a])).length : Int) - 1) = (m.length : Int) := by rw [hlen]; exact i64_len1 _ (by omega)
  have hg : (wns (m ++ [a]))[m.length]? = some [.v (.int .u64 (a : Int))] := by rw [wns_get (by simp)]; simp
  have ht : (wns (m ++ [a])).take m.length = wns m := by rw [wns_take]; simp
  by_cases ha : a = 0
  ·subst ha
   rw [trim_last] at hx
   (repeat' (first | refine r_4eabd4 ?_ | (refine r_0efca5 (fun hb => ?_) (fun hb => ?_) <;> (try (exfalso; omega))) | fail))
   all_goals (first | (exfalso; omega) | exact ⟨m, ⟨hx, by omega⟩, by show Le _ _ (trS m); rw [ht]; (refine Le.mk [] [] q_5ec36 q_43730 q_16bb5 q_509a2), by show m.length < (m ++ [0]).length; simp⟩)
  ·rw [trim_keep m a ha] at hx
   rw [← hx]
   (repeat' (first | refine r_4eabd4 ?_ | (refine r_0efca5 (fun hb => ?_) (fun hb => ?_) <;> (try (exfalso; omega))) | fail))
   all_goals (first | (exfalso; omega) | exact ret1 [] (.r _) rfl rfl rfl)
def trO (l : List Nat) : St := ⟨[(0, .ow 1)], [(1, some (.row 33 1 (wns l)))], 2⟩
def trL (y : List Nat) (k : Nat) : St := ⟨[(0, .ol 1 k)], [(1, some (.row 33 1 (wns y)))], 2⟩
theorem trim_o (l : List Nat) (hl : l.length ≤ 9223372036854775800) : Meets Tryz.prog 115 [.ow 0] [.row 33 1 (wns l)] (.fr 33 1 (wns (trim l))) [none] := by
 refine fn_of Tryz.func115 rfl (Nat.le_of_ble_eq_true rfl) rfl rfl ?_
 (repeat' (first | refine r_4eabd4 ?_ | (refine r_0efca5 (fun hb => ?_) (fun hb => ?_) <;> (try (exfalso; omega))) | fail))
 refine awp_olow 0 (m := (wns l).length) (.inr ⟨rfl, rfl⟩) rfl (Nat.le_refl _) rfl rfl ?_
 rw [List.take_length]
 refine awp_loop' (fun o : Option (List Nat × Nat) => match o with | none => trO l | some p => trL p.1 p.2) (fun o => match o with | none => True | some p => trim (p.1.take p.2) = trim l ∧ p.2 ≤ p.1.length ∧ p.1.length ≤ l.length ∧ p.2 < l.length) (fun o => match o with | none => l.length | some p => p.2) none trivial (by (refine Le.mk [(1,1)] [] q_5ec36 q_43730 q_16bb5 q_509a2)) fun o ho => ?_
 have key : ∀ (x : List Nat), x.length ≤ l.length → (x = [] ∧ (wns x).length = 0) ∨ ∃ m a, x = m ++ [a] ∧ (wns x).length = m.length + 1 ∧ IntKind.i64.wrap (((wns x).length : Int) - 1) = (m.length : Int) ∧ (wns x)[m.length]? = some [.v (.int .u64 (a : Int))] := by
  intro x hx
  rcases last_cases x with rfl | ⟨m, a, rfl⟩
  ·exact .inl ⟨rfl, rfl⟩
  ·have hlen : (wns (m ++ [a])).length = m.length + 1 := by rw [wns_len]; simp
   have : m.length + 1 ≤ l.length := by simpa using hx
   refine .inr ⟨m, a, rfl, hlen, by rw [hlen]; exact i64_len1 _ (by omega), by rw [wns_get (by simp)]; simp⟩
 cases o with
 | none =>
  change awp _ _ _ _ _ (trO l)
  rcases key l (Nat.le_refl _) with ⟨h1, h0⟩ | ⟨m, a, h1, hlen, hw, hg⟩
  ·rw [h1] at h0 ⊢
   (repeat' (first | refine r_4eabd4 ?_ | (refine r_0efca5 (fun hb => ?_) (fun hb => ?_) <;> (try (exfalso; omega))) | fail))
   all_goals (first | exact ret1P [] (.fr 1 _ _ _ rfl) rfl rfl (post_none rfl) rfl | (exfalso; omega))
  ·have hml : m.length + 1 = l.length := by rw [h1]; simp
   by_cases ha : a = 0
   ·subst ha
    (repeat' (first | refine r_4eabd4 ?_ | (refine r_0efca5 (fun hb => ?_) (fun hb => ?_) <;> (try (exfalso; omega))) | fail))
    all_goals (first | (exfalso; omega) | exact ⟨some (l, m.length), ⟨by show trim (l.take m.length) = trim l; rw [h1, trim_last]; simp, by show m.length ≤ l.length; omega, Nat.le_refl _, by show m.length < l.length; omega⟩, by show Le _ _ (trL l m.length); (refine Le.mk [(1,1)] [] q_5ec36 q_43730 q_16bb5 q_509a2), by show m.length < l.length; omega⟩)
   ·have e : trim l = l := by rw [h1, trim_keep m a ha]
    rw [e]
    (repeat' (first | refine r_4eabd4 ?_ | (refine r_0efca5 (fun hb => ?_) (fun hb => ?_) <;> (try (exfalso; omega))) | fail))
    all_goals (first | (exfalso; omega) | exact ret1P [] (.fr 1 _ _ _ rfl) rfl rfl (post_none rfl) rfl)
 | some p =>
  obtain ⟨y, k⟩ := p
  obtain ⟨hx, hk, hyl, hkl⟩ := ho
  dsimp only at hx hk hyl hkl
  change awp _ _ _ _ _ (trL y k)
  refine awp_olow 0 (m := k) (.inl rfl) rfl (by rw [wns_len]; exact hk) rfl rfl ?_
  rw [wns_take]
  have hxl : (y.take k).length = k := by rw [List.length_take]; omega
  generalize y.take k = x at *
  rcases key x (by omega) with ⟨h1, h0⟩ | ⟨m, a, h1, hlen, hw, hg⟩
  ·rw [← hx]
   rw [h1] at h0 ⊢
   (repeat' (first | refine r_4eabd4 ?_ | (refine r_0efca5 (fun hb => ?_) (fun hb => ?_) <;> (try (exfalso; omega))) | fail))
   all_goals (first | exact ret1P [] (.fr 2 _ _ _ rfl) rfl rfl (post_none rfl) rfl | (exfalso; omega))
  ·have hml : m.length + 1 = k := by rw [← hxl, h1]; simp
   by_cases ha : a = 0
   ·subst ha
    (repeat' (first | refine r_4eabd4 ?_ | (refine r_0efca5 (fun hb => ?_) (fun hb => ?_) <;> (try (exfalso; omega))) | fail))
    all_goals (first | (exfalso; omega) | exact ⟨some (x, m.length), ⟨by show trim (x.take m.length) = trim l; rw [← hx, h1, trim_last]; simp, by show m.length ≤ x.length; omega, by show x.length ≤ l.length; omega, by show m.length < l.length; omega⟩, by show Le _ _ (trL x m.length); (refine Le.mk [(1,2)] [] q_5ec36 q_43730 q_16bb5 q_509a2), by show m.length < k; omega⟩)
   ·have e : trim x = x := by rw [h1, trim_keep m a ha]
    rw [← hx, e]
    (repeat' (first | refine r_4eabd4 ?_ | (refine r_0efca5 (fun hb => ?_) (fun hb => ?_) <;> (try (exfalso; omega))) | fail))
    all_goals (first | (exfalso; omega) | exact ret1P [] (.fr 2 _ _ _ rfl) rfl rfl (post_none rfl) rfl)
end Go.Proofs.YtibedaeefnjjlaaGreat
namespace Go.Proofs.YtibedaeefnjjlaaGreat
open Go.RowKit Go.Ab Go.Wd
def wd (b : Bool) (n : Nat) : AV := .ag [.r (.v (.bool b)), .r (.v (.int .u64 ((n % B64 : Nat) : Int))), .r (.v (.int .u64 ((n / B64 % B64 : Nat) : Int))), .r (.v (.int .u64 ((n / B64 / B64 % B64 : Nat) : Int))), .r (.v (.int .u64 ((n / B64 / B64 / B64 % B64 : Nat) : Int)))]
theorem of_m (b : Bool) (n : Nat) (hn : n < B64 ^ 4) : Meets Tryz.prog 81 [wd b n] [] (.r (.sl 1 (wns (tw n)))) [] := by
 have ht : trim (ws n 4) = tw n := by rw [trim_tw _ (ws_wds 4 n), val_ws 4 n hn]
 rw [← ht]
 refine Meets.freeze (T := 33) ?_
 refine fn_of Tryz.func81 rfl (Nat.le_of_ble_eq_true rfl) rfl rfl ?_
 have hso : List.take 4 (List.drop 1 [AV.r (.v (.bool b)), .r (.v (.int .u64 ((n % B64 : Nat) : Int))), .r (.v (.int .u64 ((n / B64 % B64 : Nat) : Int))), .r (.v (.int .u64 ((n / B64 / B64 % B64 : Nat) : Int))), .r (.v (.int .u64 ((n / B64 / B64 / B64 % B64 : Nat) : Int)))]) = (wns (ws n 4)).flatten.map .r := rfl
 have h1 : ∀ e ∈ wns (ws n 4), e.length = 1 := by
  intro e he
  unfold wns at he
  obtain ⟨a, _, rfl⟩ := List.mem_map.1 he
  rfl
 have h2 : (wns (ws n 4)).length = 4 := rfl
 have h3 : ([] ++ wns (ws n 4)) = wns (ws n 4) := rfl
 (repeat' (first | refine r_4eabd4 ?_ | (refine is_f 115 ?_; refine r_e0b6b3 (trim_o (ws n 4) (by rw [ws_len]; omega)) ?_) | (refine r_0efca5 (fun hb => ?_) (fun hb => ?_) <;> (try (exfalso; omega))) | fail))
 all_goals (first | exact ret1 [] (.fr 1 _ _ _ rfl) rfl rfl rfl | exact ret1 [] (.fr 2 _ _ _ rfl) rfl rfl rfl | exact ret1 [] (.fr 3 _ _ _ rfl) rfl rfl rfl)
def cmpN (m n : Nat) : Int := if m < n then -1 else if n < m then 1 else 0
theorem val_split (l : List Nat) (i : Nat) (h : i < l.length) : val l = val (l.take i) + B64 ^ i * (l.getD i 0 + B64 * val (l.drop (i + 1))) := by
 have h1 := val_append (l.take i) (l.drop i)
 rw [List.take_append_drop, val_drop l i h, List.length_take, Nat.min_eq_left (Nat.le_of_lt h)] at h1
 exact h1
theorem val_take_lt (l : List Nat) (hw : Wds l) (i : Nat) (h : i ≤ l.length) : val (l.take i) < B64 ^ i := by
 have h1 := val_lt (l.take i) (fun a ha => hw a (List.mem_of_mem_take ha))
 rw [List.length_take, Nat.min_eq_left h] at h1
 exact h1
theorem cmp_word {x y a b s t i v : Nat} (hs : s < B64 ^ i) (ht : t < B64 ^ i) (hx : x = s + B64 ^ i * (a + B64 * v)) (hy : y = t + B64 ^ i * (b + B64 * v)) (hab : a < b) : x < y := by
 have : B64 ^ i * (a + B64 * v + 1) ≤ B64 ^ i * (b + B64 * v) := Nat.mul_le_mul (Nat.le_refl _) (by omega)
 rw [Nat.mul_add] at this
 omega
theorem tw_len_cmp {m n : Nat} (h : (tw m).length < (tw n).length) : m < n := by
 have h1 := tw_len_lt _ m (Nat.le_refl _)
 rcases Nat.lt_or_ge m n with h' | h'
 ·exact h'
 ·have := tw_len (tw m).length n (Nat.lt_of_le_of_lt h' h1)
  omega
def cpS (m n : Nat) (z : Int) : St := ⟨[(0, .r (.sl 1 (wns (tw m)))), (1, .r (.sl 1 (wns (tw n)))), (5, .r (.v (.int .i64 z)))], [], 0⟩
theorem compare_m (m n : Nat) (hm : (tw m).length ≤ 1000000) (hn : (tw n).length ≤ 1000000) : Meets Tryz.prog 82 [.r (.sl 1 (wns (tw m))), .r (.sl 1 (wns (tw n)))] [] (.r (.v (.int .i64 (cmpN m n)))) [] := by
 refine fn_of Tryz.func82 rfl (Nat.le_of_ble_eq_true rfl) rfl rfl ?_
 have l1 := wns_len (tw m)
 have l2 := wns_len (tw n)
 have c1 : (tw m).length < (tw n).length → (-1 : Int) = cmpN m n := fun h => by
  have := tw_len_cmp h
  unfold cmpN; rw [if_pos this]
 have c2 : (tw n).length < (tw m).length → (1 : Int) = cmpN m n := fun h => by
  have := tw_len_cmp h
  unfold cmpN; rw [if_neg (by omega), if_pos this]
 (repeat' (first | refine r_4eabd4 ?_ | (refine r_0efca5 (fun hb => ?_) (fun hb => ?_) <;> (try (exfalso; omega))) | fail))
 all_goals (first | (exfalso; omega) | exact ret1 [] (.int (c1 (by omega))) rfl rfl rfl | exact ret1 [] (.int (c2 (by omega))) rfl rfl rfl | skip)
 have hlen : (tw m).length = (tw n).length := by omega
 have e1 := val_tw m
 have e2 := val_tw n
 have w1 := tw_wds m
 have w2 := tw_wds n
 refine awp_loop' (fun j : Nat => cpS m n ((j : Int) - 1)) (fun j => j ≤ (tw m).length ∧ (tw m).drop j = (tw n).drop j) (fun j => j) (tw m).length ⟨Nat.le_refl _, by rw [List.drop_length, hlen, List.drop_length]⟩ (by (refine Le.mk [] [] q_5ec36 q_43730 q_16bb5 q_509a2)) fun j hj => ?_
 obtain ⟨hj1, hj2⟩ := hj
 cases j with
 | zero =>
  change awp _ _ _ _ _ (cpS m n (-1))
  have : m = n := by
   rw [List.drop_zero, List.drop_zero] at hj2
   rw [← e1, ← e2, hj2]
  have c3 : (0 : Int) = cmpN m n := by unfold cmpN; rw [if_neg (by omega), if_neg (by omega)]
  (repeat' (first | refine r_4eabd4 ?_ | (refine r_0efca5 (fun hb => ?_) (fun hb => ?_) <;> (try (exfalso; omega))) | fail))
  all_goals (first | (exfalso; omega) | exact ret1 [] (.int c3) rfl rfl rfl)
 | succ i =>
  have hi : i < (tw m).length := hj1
  have hi2 : i < (tw n).length := by omega
  have g1 := wns_get (l := tw m) hi
  have g2 := wns_get (l := tw n) hi2
  have v1 := val_split (tw m) i hi
  have v2 := val_split (tw n) i hi2
  have t1 := val_take_lt (tw m) w1 i (by omega)
  have t2 := val_take_lt (tw n) w2 i (by omega)
  rw [e1] at v1
  rw [e2, ← hj2] at v2
  have hw : IntKind.i64.wrap ((i : Int) - 1) = ((i : Int) - 1) := by rw [IntKind.wrap_i64]; omega
  have hc : (((i + 1 : Nat) : Int) - 1) = (i : Int) := by omega
  change awp _ _ _ _ _ (cpS m n (((i + 1 : Nat) : Int) - 1))
  rw [hc]
  have d1 : (tw m).drop i = (tw m).getD i 0 :: (tw m).drop (i + 1) := by
   rw [List.drop_eq_getElem_cons hi]; simp [hi]
  have d2 : (tw n).drop i = (tw n).getD i 0 :: (tw n).drop (i + 1) := by
   rw [List.drop_eq_getElem_cons hi2]; simp [hi2]
  have lt1 : (tw m).getD i 0 < (tw n).getD i 0 → (-1 : Int) = cmpN m n := fun h => by
   have := cmp_word t1 t2 v1 v2 h
   unfold cmpN; rw [if_pos this]
  have lt2 : (tw n).getD i 0 < (tw m).getD i 0 → (1 : Int) = cmpN m n := fun h => by
   have := cmp_word t2 t1 v2 v1 h
   unfold cmpN; rw [if_neg (by omega), if_pos this]
  have same : (tw m).getD i 0 = (tw n).getD i 0 → (tw m).drop i = (tw n).drop i := fun h => by rw [d1, d2, h, hj2]
  clear v1 v2 t1 t2 e1 e2 d1 d2 w1 w2
  generalize (tw m).getD i 0 = a at *
  generalize (tw n).getD i 0 = b at *
  (repeat' (first | refine r_4eabd4 ?_ | (refine r_0efca5 (fun hb => ?_) (fun hb => ?_) <;> (try (exfalso; omega))) | fail))
  all_goals (first | (exfalso; omega) | exact ret1 [] (.int (lt1 (by omega))) rfl rfl rfl | exact ret1 [] (.int (lt2 (by omega))) rfl rfl rfl | exact ⟨i, ⟨by omega, same (by omega)⟩, by show Le _ _ (cpS m n ((i : Int) - 1)); (refine Le.mk [] [] q_5ec36 q_43730 q_16bb5 q_509a2), by show i < i + 1; omega⟩)
end Go.Proofs.YtibedaeefnjjlaaGreat
namespace Go.Proofs.YtibedaeefnjjlaaGreat
open Go.RowKit Go.Ab Go.Wd
theorem round_eq {p s c : Nat} (hp : p ≤ (B64 - 1) * (B64 - 1)) (hs : s < B64) (hc : c < B64) :
  ((p % B64 + s) % B64 + c) % B64 = (p + s + c) % B64 ∧ p / B64 + (p % B64 + s) / B64 + ((p % B64 + s) % B64 + c) / B64 = (p + s + c) / B64 ∧ p / B64 + (p % B64 + s) / B64 < B64 ∧ (p + s + c) / B64 < B64 := by
 unfold B64 at *
 omega
theorem word_mul_le {x y : Nat} (hx : x < B64) (hy : y < B64) : x * y ≤ (B64 - 1) * (B64 - 1) := Nat.mul_le_mul (by omega) (by omega)
def muO (a b : List Nat) (i : Nat) (l : List Nat) : St := ⟨[(0, .r (.sl 1 (wns a))), (1, .r (.sl 1 (wns b))), (5, .ow 0), (6, .r (.v (.int .i64 (i : Int))))], [(0, some (.row 33 1 (wns l)))], 1⟩
def muI (a b : List Nat) (i : Nat) (k c : Nat) (l : List Nat) : St := ⟨[(0, .r (.sl 1 (wns a))), (1, .r (.sl 1 (wns b))), (5, .ow 0), (6, .r (.v (.int .i64 (i : Int)))), (7, .r (.v (.int .u64 (c : Int)))), (8, .r (.v (.int .i64 (k : Int))))], [(0, some (.row 33 1 (wns l)))], 1⟩
theorem nat_addI (a b : Nat) (h : a + b < 9223372036854775808) : IntKind.i64.wrap ((a : Int) + (b : Int)) = ((a + b : Nat) : Int) := by rw [IntKind.wrap_i64]; omega
theorem nat_incI (a : Nat) (h : a + 1 < 9223372036854775808) : IntKind.i64.wrap ((a : Int) + 1) = ((a + 1 : Nat) : Int) := by rw [IntKind.wrap_i64]; omega
theorem refMulL_m (a b : List Nat) (hwa : Wds a) (hwb : Wds b) (hla : a.length ≤ 1000) (hlb : b.length ≤ 1000) : Meets Tryz.prog 80 [.r (.sl 1 (wns a)), .r (.sl 1 (wns b))] [] (.r (.sl 1 (wns (tw (val a * val b))))) [] := by
 obtain ⟨ml1, ml2, ml3⟩ := mul_law a b (a.length + b.length + 1) hwa hwb (by omega)
 have l1 := wns_len a
 have l2 := wns_len b
 have s1 := nat_addI a.length b.length (by omega)
 have s2 := nat_incI (a.length + b.length) (by omega)
 rw [← l1, ← l2] at s1
 rw [← l1, ← l2] at s2
 have hz : List.replicate ((wns a).length + (wns b).length + 1) (List.map RV.v [Value.int IntKind.u64 0]) = wns (List.replicate (a.length + b.length + 1) 0) := by
  rw [l1, l2]; unfold wns; rw [List.map_replicate]; rfl
 obtain ⟨R, hR⟩ : ∃ R, R = mOut a b a.length 0 (List.replicate (a.length + b.length + 1) 0) := ⟨_, rfl⟩
 rw [← hR] at ml1 ml2 ml3
 have hTR : trim R = tw (val a * val b) := by rw [trim_tw R ml1, ml3]
 rw [← hTR]
 refine Meets.freeze (T := 33) ?_
 refine fn_of Tryz.func80 rfl (Nat.le_of_ble_eq_true rfl) rfl rfl ?_
 (repeat' (first | refine r_4eabd4 ?_ | (refine r_0efca5 (fun hb => ?_) (fun hb => ?_) <;> (try (exfalso; omega))) | fail))
 refine awp_loop' (fun x : Nat × List Nat => muO a b x.1 x.2) (fun x => x.1 ≤ a.length ∧ x.2.length = a.length + b.length + 1 ∧ Wds x.2 ∧ mOut a b (a.length - x.1) x.1 x.2 = R) (fun x => a.length - x.1) (0, List.replicate (a.length + b.length + 1) 0) ⟨Nat.zero_le _, by simp, fun x hx => by rw [List.eq_of_mem_replicate hx]; decide, hR.symm⟩ (by (refine Le.mk [] [] q_5ec36 q_43730 q_16bb5 q_509a2)) fun x hx => ?_
 obtain ⟨i, l⟩ := x
 obtain ⟨hx1, hx2, hx3, hx4⟩ := hx
 dsimp only at hx1 hx2 hx3 hx4
 change awp _ _ _ _ _ (muO a b i l)
 rcases Nat.lt_or_ge i a.length with hi | hi
 ·have hx0 := hwa.get i
  have ga := wns_get (l := a) hi
  obtain ⟨j, hj⟩ : ∃ j, a.length - i = j + 1 := ⟨a.length - i - 1, by omega⟩
  have hj2 : j = a.length - (i + 1) := by omega
  rw [hj, mOut] at hx4
  subst hj2
  generalize a.getD i 0 = x at *
  (repeat' (first | refine r_4eabd4 ?_ | (refine r_0efca5 (fun hb => ?_) (fun hb => ?_) <;> (try (exfalso; omega))) | fail))
  refine awp_loop' (fun y : Nat × Nat × List Nat => muI a b i y.1 y.2.1 y.2.2) (fun y => y.1 ≤ b.length ∧ y.2.2.length = a.length + b.length + 1 ∧ Wds y.2.2 ∧ y.2.1 < B64 ∧ mIn x b i (b.length - y.1) y.1 y.2.1 y.2.2 = mIn x b i b.length 0 0 l) (fun y => b.length - y.1) (0, 0, l) ⟨Nat.zero_le _, hx2, hx3, by show 0 < B64; decide, rfl⟩ (by (refine Le.mk [] [] q_5ec36 q_43730 q_16bb5 q_509a2)) fun y hy => ?_
  obtain ⟨k, c, m⟩ := y
  obtain ⟨hy1, hy2, hy3, hy4, hy5⟩ := hy
  dsimp only at hy1 hy2 hy3 hy4 hy5
  change awp _ _ _ _ _ (muI a b i k c m)
  rcases Nat.lt_or_ge k b.length with hk | hk
  ·have hy0 := hwb.get k
   have gb := wns_get (l := b) hk
   have gm := wns_get (l := m) (i := i + k) (by omega)
   have hm0 := hy3.get (i + k)
   obtain ⟨q, hq⟩ : ∃ q, b.length - k = q + 1 := ⟨b.length - k - 1, by omega⟩
   have hq2 : q = b.length - (k + 1) := by omega
   rw [hq, mIn] at hy5
   subst hq2
   have sik := nat_addI i k (by omega)
   have cM := mul64_m x (b.getD k 0) hx0 hy0
   generalize b.getD k 0 = y at *
   generalize m.getD (i + k) 0 = s at *
   obtain ⟨r1, r2, r3, r4⟩ := round_eq (word_mul_le hx0 hy0) hm0 hy4
   have a1 := u64_addN (x * y / B64) ((x * y % B64 + s) / B64) r3
   have a2 := u64_addN (x * y / B64 + (x * y % B64 + s) / B64) (((x * y % B64 + s) % B64 + c) / B64) (by rw [r2]; exact r4)
   rw [r2] at a2
   have hE : (wns m).set (i + k) [.v (.int .u64 ((((x * y % B64 + s) % B64 + c) % B64 : Nat) : Int))] = wns (m.set (i + k) ((x * y + s + c) % B64)) := by rw [r1, wns_set]
   have hr5 : (x * y + s + c) % B64 < B64 := by unfold B64; omega
   clear r1 r2
   (repeat' (first | refine r_4eabd4 ?_ | (refine is_f 116 ?_; refine r_bb2b31 (cM) ?_) | ((refine is_f 117 ?_; refine w_read rfl q_85eb5 (p_add64z rfl rfl rfl) ?_); try dsimp only [AV.unfr, AV.unfrs, frsL, pairs, rdOf, @List.length_cons Blk, @List.length_nil Blk, @List.nil_append (Nat × Option Blk), @List.cons_append (Nat × Option Blk), @List.nil_append Blk, @List.cons_append Blk, Nat.add_zero, Nat.zero_add, Nat.reduceAdd]) | (refine r_0efca5 (fun hb => ?_) (fun hb => ?_) <;> (try (exfalso; omega))) | fail))
   all_goals exact ⟨(k + 1, (x * y + s + c) / B64, m.set (i + k) ((x * y + s + c) % B64)), ⟨hk, by rw [List.length_set]; exact hy2, hy3.set _ hr5, r4, hy5⟩, by show Le _ _ (muI a b i (k + 1) ((x * y + s + c) / B64) (m.set (i + k) ((x * y + s + c) % B64))); (refine Le.mk [] [] q_5ec36 q_43730 q_16bb5 q_509a2), by show b.length - (k + 1) < b.length - k; omega⟩
  ·have hke : b.length - k = 0 := by omega
   have hkk : k = b.length := by omega
   rw [hke, mIn] at hy5
   rw [← hy5] at hx4
   dsimp only at hx4
   have sib := nat_addI i b.length (by omega)
   rw [← l2] at sib
   have gm := wns_get (l := m) (i := i + (wns b).length) (by omega)
   have hE : (wns m).set (i + (wns b).length) [.v (.int .u64 (c : Int))] = wns (m.set (i + b.length) c) := by rw [wns_set, l2]
   (repeat' (first | refine r_4eabd4 ?_ | (refine r_0efca5 (fun hb => ?_) (fun hb => ?_) <;> (try (exfalso; omega))) | fail))
   all_goals exact ⟨(i + 1, m.set (i + b.length) c), ⟨hi, by rw [List.length_set]; exact hy2, hy3.set _ hy4, hx4⟩, by show Le _ _ (muO a b (i + 1) (m.set (i + b.length) c)); (refine Le.mk [] [] q_5ec36 q_43730 q_16bb5 q_509a2), by show a.length - (i + 1) < a.length - i; omega⟩
 ·have hie : a.length - i = 0 := by omega
  rw [hie, mOut] at hx4
  subst hx4
  (repeat' (first | refine r_4eabd4 ?_ | (refine is_f 115 ?_; refine r_181b4d (trim_o l (by omega)) ?_) | (refine r_0efca5 (fun hb => ?_) (fun hb => ?_) <;> (try (exfalso; omega))) | fail))
  all_goals (first | exact ret1 [] (.fr 1 _ _ _ rfl) rfl rfl rfl | exact ret1 [] (.fr 2 _ _ _ rfl) rfl rfl rfl)
end Go.Proofs.YtibedaeefnjjlaaGreat
namespace Go.Proofs.YtibedaeefnjjlaaGreat
open Go.RowKit Go.Ab Go.Wd
theorem Rt.agR {H : Nat → Option Blk} {L : Nat} {G : List Nat} : ∀ (cs : List RV), RtL H L G (cs.map .r) (cs.map .r) []
 | [] => .nil
 | c :: cs => .cons _ _ _ _ [] [] (.r c) (Rt.agR cs)
theorem Rt.wd {H : Nat → Option Blk} {L : Nat} {G : List Nat} (b : Bool) (n : Nat) : Rt H L G (Go.Proofs.YtibedaeefnjjlaaGreat.wd b n) (Go.Proofs.YtibedaeefnjjlaaGreat.wd b n) [] := .ag _ _ _ (Rt.agR [.v (.bool b), .v (.int .u64 ((n % B64 : Nat) : Int)), .v (.int .u64 ((n / B64 % B64 : Nat) : Int)), .v (.int .u64 ((n / B64 / B64 % B64 : Nat) : Int)), .v (.int .u64 ((n / B64 / B64 / B64 % B64 : Nat) : Int))])
theorem tw_ws (n : Nat) (hn : n < B64 ^ 4) : tw n ++ List.replicate (4 - (tw n).length) 0 = ws n 4 := by
 have hl := tw_len 4 n hn
 have hlen : (tw n ++ List.replicate (4 - (tw n).length) 0).length = 4 := by rw [List.length_append, List.length_replicate]; omega
 have hw : Wds (tw n ++ List.replicate (4 - (tw n).length) 0) := by
  intro a ha
  rcases List.mem_append.1 ha with h | h
  ·exact tw_wds n a h
  ·rw [List.eq_of_mem_replicate h]; decide
 have hv : val (tw n ++ List.replicate (4 - (tw n).length) 0) = n := by rw [val_append, val_zeros, val_tw, Nat.mul_zero, Nat.add_zero]
 have := ws_val _ hw
 rw [hv, hlen] at this
 exact this.symm
theorem fill_step (l : List Nat) (i : Nat) (hi : i < l.length) (h4 : l.length ≤ 4) : (l.take i ++ List.replicate (4 - i) 0).set i (l.getD i 0) = l.take (i + 1) ++ List.replicate (4 - (i + 1)) 0 := by
 apply List.ext_getElem?
 intro k
 have e : 4 - i = (4 - (i + 1)) + 1 := by omega
 rcases Nat.lt_trichotomy k i with hk | hk | hk
 ·simp [List.getElem?_append, List.getElem?_take, List.getElem?_set, hk, Nat.min_eq_left (Nat.le_of_lt hi), show ¬ i = k by omega, show k < min (i + 1) l.length by omega, show k < i + 1 by omega]
 ·subst hk
  simp [List.getElem?_append, List.getElem?_take, List.getElem?_set, hi, Nat.min_eq_left (Nat.le_of_lt hi), show k < min (k + 1) l.length by omega, show k < k + (4 - k) by omega]
 ·have : i ≠ k := by omega
  simp [List.getElem?_append, List.getElem?_take, List.getElem?_set, Nat.min_eq_left (Nat.le_of_lt hi), this, show ¬ k < i by omega, show ¬ k < min (i + 1) l.length by omega, Nat.min_eq_left (show i + 1 ≤ l.length from hi)]
  have h0 : ¬ 0 = k - i := by omega
  by_cases h : k < 4
  ·simp [List.getElem?_replicate, show k - i < 4 - i by omega, show ¬ k < i + 1 by omega, h0, show k - (i + 1) < 3 - i by omega]
  ·simp [List.getElem?_replicate, show ¬ k - i < 4 - i by omega, show ¬ k < i + 1 by omega, h0, show ¬ k - (i + 1) < 3 - i by omega]
def wiS (m : List Nat) (bb : Bool) (i : Nat) (l : List Nat) : St := ⟨[(1, .r (.sl 1 (wns m))), (4, .pt 0 0), (6, .pt 1 0), (7, .r (.v (.int .i64 (i : Int))))], [(0, some (.var 36 [.r (.v (.bool false)), .r (.v (.int .u64 0)), .r (.v (.int .u64 0)), .r (.v (.int .u64 0)), .r (.v (.int .u64 0))])), (1, some (.var 36 (.r (.v (.bool bb)) :: wv l)))], 2⟩
theorem wide_m (b : Bool) (n : Nat) (hn : n < B64 ^ 4) : Meets Tryz.prog 79 [.r (.v (.bool b)), .r (.sl 1 (wns (tw n)))] [] (.tu [wd (b && decide (n ≠ 0)) n, .r (.v (.bool true))]) [] := by
 refine fn_of Tryz.func79 rfl (Nat.le_of_ble_eq_true rfl) rfl rfl ?_
 have hl := tw_len 4 n hn
 have hll := wns_len (tw n)
 have cT := trim_m (tw n) (by omega)
 rw [trim_tw _ (tw_wds n), val_tw] at cT
 have hb0 : (b && decide (n ≠ 0)) = (b && decide (0 < (tw n).length)) := by
  by_cases h : n = 0
  ·subst h; rw [tw_zero]; rfl
  ·rw [tw_pos h]; simp [h]
 have hws := tw_ws n hn
 rw [hb0]
 generalize tw n = m at *
 cases b with
 | false =>
  (repeat' (first | refine r_4eabd4 ?_ | (refine is_f 115 ?_; refine r_bb2b31 (cT) ?_) | (refine r_0efca5 (fun hb => ?_) (fun hb => ?_) <;> (try (exfalso; omega))) | fail))
  all_goals (first | (exfalso; omega) | skip)
  rw [Bool.false_and]
  refine awp_loop' (fun i : Nat => wiS m false i (m.take i ++ List.replicate (4 - i) 0)) (fun i => i ≤ m.length) (fun i => m.length - i) 0 (Nat.zero_le _) (by (refine Le.mk [(0,0),(1,1)] [] q_5ec36 q_43730 q_16bb5 q_509a2)) fun i hx => ?_
  rcases Nat.lt_or_ge i m.length with hi | hi
  ·have hL : (m.take i ++ List.replicate (4 - i) 0).length = 4 := by rw [List.length_append, List.length_replicate, List.length_take]; omega
   have hst := fill_step m i hi hl
   have gm := wns_get (l := m) hi
   change awp _ _ _ _ _ (wiS m false i (m.take i ++ List.replicate (4 - i) 0))
   generalize m.take i ++ List.replicate (4 - i) 0 = L at *
   have hlen : Nat.ble (0 + 1 + i * 1 + 1) (AV.r (.v (.bool false)) :: wv L).length = true := by rw [Nat.ble_eq, List.length_cons, wv_len]; omega
   have hE : setA (AV.r (.v (.bool false)) :: wv L) (0 + 1 + i * 1) [.r (.v (.int .u64 (m.getD i 0 : Nat)))] = AV.r (.v (.bool false)) :: wv (L.set i (m.getD i 0)) := by
    rw [← wv_set L i _ (by omega), show 0 + 1 + i * 1 = i + 1 by omega]; rfl
   have hi4 : i < 4 := by omega
   have hid : ∀ T, (Blk.var T (AV.r (.v (.bool false)) :: wv (L.set i (m.getD i 0)))).ids = [] := fun T => by rw [Blk.ids, AV.idss, idss_wv]; rfl
   have hnum : numsOk ⟨0, moved []⟩ (wiS m false (i + 1) (L.set i (m.getD i 0))) (rho []) [] = true := by
    unfold numsOk wiS; simp only [List.all_cons, List.all_nil, hid]; rfl
   (repeat' (first | refine r_4eabd4 ?_ | (refine r_0efca5 (fun hb => ?_) (fun hb => ?_) <;> (try (exfalso; omega))) | fail))
   all_goals (first | (exfalso; omega) | exact ⟨i + 1, hi, by show Le _ _ (wiS m false (i + 1) (m.take (i + 1) ++ List.replicate (4 - (i + 1)) 0)); rw [← hst]; simp only [cellsA]; rw [hE]; (refine Le.mk [] [] q_5ec36 q_43730 q_16bb5 q_509a2), by show m.length - (i + 1) < m.length - i; omega⟩)
  ·have hie : i = m.length := by have : i ≤ m.length := hx; omega
   subst hie
   have e : m.take m.length ++ List.replicate (4 - m.length) 0 = ws n 4 := by rw [List.take_length]; exact hws
   change awp _ _ _ _ _ (wiS m false m.length (m.take m.length ++ List.replicate (4 - m.length) 0))
   rw [e]
   (repeat' (first | refine r_4eabd4 ?_ | (refine r_0efca5 (fun hb => ?_) (fun hb => ?_) <;> (try (exfalso; omega))) | fail))
   all_goals (first | (exfalso; omega) | exact ret2c [] (Rt.wd false n) (.bool rfl) rfl rfl rfl rfl rfl (post_none rfl) rfl)
 | true =>
  rcases Nat.eq_zero_or_pos m.length with h0 | h0
  ·have hd : (true && decide (0 < m.length)) = false := by simp [h0]
   rw [hd]
   (repeat' (first | refine r_4eabd4 ?_ | (refine is_f 115 ?_; refine r_bb2b31 (cT) ?_) | (refine r_0efca5 (fun hb => ?_) (fun hb => ?_) <;> (try (exfalso; omega))) | fail))
   all_goals (first | (exfalso; omega) | skip)
   refine awp_loop' (fun i : Nat => wiS m false i (m.take i ++ List.replicate (4 - i) 0)) (fun i => i ≤ m.length) (fun i => m.length - i) 0 (Nat.zero_le _) (by (refine Le.mk [(0,0),(1,1)] [] q_5ec36 q_43730 q_16bb5 q_509a2)) fun i hx => ?_
   rcases Nat.lt_or_ge i m.length with hi | hi
   ·have hL : (m.take i ++ List.replicate (4 - i) 0).length = 4 := by rw [List.length_append, List.length_replicate, List.length_take]; omega
    have hst := fill_step m i hi hl
    have gm := wns_get (l := m) hi
    change awp _ _ _ _ _ (wiS m false i (m.take i ++ List.replicate (4 - i) 0))
    generalize m.take i ++ List.replicate (4 - i) 0 = L at *
    have hlen : Nat.ble (0 + 1 + i * 1 + 1) (AV.r (.v (.bool false)) :: wv L).length = true := by rw [Nat.ble_eq, List.length_cons, wv_len]; omega
    have hE : setA (AV.r (.v (.bool false)) :: wv L) (0 + 1 + i * 1) [.r (.v (.int .u64 (m.getD i 0 : Nat)))] = AV.r (.v (.bool false)) :: wv (L.set i (m.getD i 0)) := by
     rw [← wv_set L i _ (by omega), show 0 + 1 + i * 1 = i + 1 by omega]; rfl
    have hi4 : i < 4 := by omega
    have hid : ∀ T, (Blk.var T (AV.r (.v (.bool false)) :: wv (L.set i (m.getD i 0)))).ids = [] := fun T => by rw [Blk.ids, AV.idss, idss_wv]; rfl
    have hnum : numsOk ⟨0, moved []⟩ (wiS m false (i + 1) (L.set i (m.getD i 0))) (rho []) [] = true := by
     unfold numsOk wiS; simp only [List.all_cons, List.all_nil, hid]; rfl
    (repeat' (first | refine r_4eabd4 ?_ | (refine r_0efca5 (fun hb => ?_) (fun hb => ?_) <;> (try (exfalso; omega))) | fail))
    all_goals (first | (exfalso; omega) | exact ⟨i + 1, hi, by show Le _ _ (wiS m false (i + 1) (m.take (i + 1) ++ List.replicate (4 - (i + 1)) 0)); rw [← hst]; simp only [cellsA]; rw [hE]; (refine Le.mk [] [] q_5ec36 q_43730 q_16bb5 q_509a2), by show m.length - (i + 1) < m.length - i; omega⟩)
   ·have hie : i = m.length := by have : i ≤ m.length := hx; omega
    subst hie
    have e : m.take m.length ++ List.replicate (4 - m.length) 0 = ws n 4 := by rw [List.take_length]; exact hws
    change awp _ _ _ _ _ (wiS m false m.length (m.take m.length ++ List.replicate (4 - m.length) 0))
    rw [e]
    (repeat' (first | refine r_4eabd4 ?_ | (refine r_0efca5 (fun hb => ?_) (fun hb => ?_) <;> (try (exfalso; omega))) | fail))
    all_goals (first | (exfalso; omega) | exact ret2c [] (Rt.wd false n) (.bool rfl) rfl rfl rfl rfl rfl (post_none rfl) rfl)
  ·have hd : (true && decide (0 < m.length)) = true := by simp [h0]
   rw [hd]
   (repeat' (first | refine r_4eabd4 ?_ | (refine is_f 115 ?_; refine r_bb2b31 (cT) ?_) | (refine r_0efca5 (fun hb => ?_) (fun hb => ?_) <;> (try (exfalso; omega))) | fail))
   all_goals (first | (exfalso; omega) | skip)
   refine awp_loop' (fun i : Nat => wiS m true i (m.take i ++ List.replicate (4 - i) 0)) (fun i => i ≤ m.length) (fun i => m.length - i) 0 (Nat.zero_le _) (by (refine Le.mk [(0,0),(1,1)] [] q_5ec36 q_43730 q_16bb5 q_509a2)) fun i hx => ?_
   rcases Nat.lt_or_ge i m.length with hi | hi
   ·have hL : (m.take i ++ List.replicate (4 - i) 0).length = 4 := by rw [List.length_append, List.length_replicate, List.length_take]; omega
    have hst := fill_step m i hi hl
    have gm := wns_get (l := m) hi
    change awp _ _ _ _ _ (wiS m true i (m.take i ++ List.replicate (4 - i) 0))
    generalize m.take i ++ List.replicate (4 - i) 0 = L at *
    have hlen : Nat.ble (0 + 1 + i * 1 + 1) (AV.r (.v (.bool true)) :: wv L).length = true := by rw [Nat.ble_eq, List.length_cons, wv_len]; omega
    have hE : setA (AV.r (.v (.bool true)) :: wv L) (0 + 1 + i * 1) [.r (.v (.int .u64 (m.getD i 0 : Nat)))] = AV.r (.v (.bool true)) :: wv (L.set i (m.getD i 0)) := by
     rw [← wv_set L i _ (by omega), show 0 + 1 + i * 1 = i + 1 by omega]; rfl
    have hi4 : i < 4 := by omega
    have hid : ∀ T, (Blk.var T (AV.r (.v (.bool true)) :: wv (L.set i (m.getD i 0)))).ids = [] := fun T => by rw [Blk.ids, AV.idss, idss_wv]; rfl
    have hnum : numsOk ⟨0, moved []⟩ (wiS m true (i + 1) (L.set i (m.getD i 0))) (rho []) [] = true := by
     unfold numsOk wiS; simp only [List.all_cons, List.all_nil, hid]; rfl
    (repeat' (first | refine r_4eabd4 ?_ | (refine r_0efca5 (fun hb => ?_) (fun hb => ?_) <;> (try (exfalso; omega))) | fail))
    all_goals (first | (exfalso; omega) | exact ⟨i + 1, hi, by show Le _ _ (wiS m true (i + 1) (m.take (i + 1) ++ List.replicate (4 - (i + 1)) 0)); rw [← hst]; simp only [cellsA]; rw [hE]; (refine Le.mk [] [] q_5ec36 q_43730 q_16bb5 q_509a2), by show m.length - (i + 1) < m.length - i; omega⟩)
   ·have hie : i = m.length := by have : i ≤ m.length := hx; omega
    subst hie
    have e : m.take m.length ++ List.replicate (4 - m.length) 0 = ws n 4 := by rw [List.take_length]; exact hws
    change awp _ _ _ _ _ (wiS m true m.length (m.take m.length ++ List.replicate (4 - m.length) 0))
    rw [e]
    (repeat' (first | refine r_4eabd4 ?_ | (refine r_0efca5 (fun hb => ?_) (fun hb => ?_) <;> (try (exfalso; omega))) | fail))
    all_goals (first | (exfalso; omega) | exact ret2c [] (Rt.wd true n) (.bool rfl) rfl rfl rfl rfl rfl (post_none rfl) rfl)
end Go.Proofs.YtibedaeefnjjlaaGreat
