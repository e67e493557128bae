/- Texts of the second layer in one: Ty Wd2 Wd3 Wd4 Wd5 Wd6. -/
import Derived.Test.YtpnbgalbdohfgaaGreatDoorG3
import Derived.Test.YtpnbgalbdohfgaaGreatDoorProg
import Derived.Test.YtpnbgalbdohfgaaGreatDoorG4
import Derived.Test.YtpnbgalbdohfgaaGreatDoorG5
import Derived.Lib.Mul64
import Derived.Laws.Bits64b
import Derived.Laws.Externs
set_option maxRecDepth 100000
set_option linter.unusedVariables false
set_option linter.unusedSimpArgs false
namespace Go.Proofs.YtpnbgalbdohfgaaGreatDoor
open Go.RowKit Go.Ab
instance ti_0 : OnT Tryz.prog 2 := ⟨by kernel_rfl⟩
instance ti_1 : ItT Tryz.prog 2 .i64 := ⟨by kernel_rfl⟩
instance ti_2 : ZrT Tryz.prog 2 [.int .i64 0] := ⟨by kernel_rfl, by kernel_rfl⟩
instance ti_3 : OnT Tryz.prog 3 := ⟨by kernel_rfl⟩
instance ti_4 : ItT Tryz.prog 3 .i64 := ⟨by kernel_rfl⟩
instance ti_6 : OnT Tryz.prog 4 := ⟨by kernel_rfl⟩
instance ti_9 : ItT Tryz.prog 5 .u8 := ⟨by kernel_rfl⟩
instance zoz : SlT Tryz.prog 22 47 2 16 := ⟨by kernel_rfl⟩
instance zoA : OnT Tryz.prog 23 := ⟨by kernel_rfl⟩
instance zoB : ItT Tryz.prog 23 .u64 := ⟨by kernel_rfl⟩
instance zoC : ZrT Tryz.prog 23 [.int .u64 0] := ⟨by kernel_rfl, by kernel_rfl⟩
instance zoD : AgT Tryz.prog 24 4 := ⟨by kernel_rfl⟩
instance zoE : ArT Tryz.prog 24 4 23 1 := ⟨by kernel_rfl⟩
instance zoF : ZrT Tryz.prog 24 [.int .u64 0, .int .u64 0, .int .u64 0, .int .u64 0] := ⟨by kernel_rfl, by kernel_rfl⟩
instance zoG : AgT Tryz.prog 26 5 := ⟨by kernel_rfl⟩
instance zoH : FdT Tryz.prog 26 0 0 4 := ⟨by kernel_rfl, by kernel_rfl⟩
instance zoI : FdT Tryz.prog 26 1 1 24 := ⟨by kernel_rfl, by kernel_rfl⟩
instance zoJ : PlT Tryz.prog 26 [(0, 1), (1, 4)] := ⟨by kernel_rfl⟩
instance zoK : ZrT Tryz.prog 26 [.bool false, .int .u64 0, .int .u64 0, .int .u64 0, .int .u64 0] := ⟨by kernel_rfl, by kernel_rfl⟩
instance zoL : AgT Tryz.prog 28 16 := ⟨by kernel_rfl⟩
instance zoM : FdT Tryz.prog 28 0 0 3 := ⟨by kernel_rfl, by kernel_rfl⟩
instance zoN : FdT Tryz.prog 28 1 1 26 := ⟨by kernel_rfl, by kernel_rfl⟩
instance zoO : FdT Tryz.prog 28 2 6 26 := ⟨by kernel_rfl, by kernel_rfl⟩
instance zoP : FdT Tryz.prog 28 3 11 26 := ⟨by kernel_rfl, by kernel_rfl⟩
instance zoQ : PlT Tryz.prog 28 [(0, 1), (1, 5), (6, 5), (11, 5)] := ⟨by kernel_rfl⟩
instance zoR : ZrT Tryz.prog 28 [.int .i64 0, .bool false, .int .u64 0, .int .u64 0, .int .u64 0, .int .u64 0, .bool false, .int .u64 0, .int .u64 0, .int .u64 0, .int .u64 0, .bool false, .int .u64 0, .int .u64 0, .int .u64 0, .int .u64 0] := ⟨by kernel_rfl, by kernel_rfl⟩
instance zoS : SlT Tryz.prog 29 3 1 8 := ⟨by kernel_rfl⟩
instance zoT : OnT Tryz.prog 29 := ⟨by kernel_rfl⟩
instance zok : FdT Tryz.prog 41 0 0 29 := ⟨by kernel_rfl, by kernel_rfl⟩
instance zol : FdT Tryz.prog 41 1 1 3 := ⟨by kernel_rfl, by kernel_rfl⟩
instance zom : SlT Tryz.prog 42 2 1 8 := ⟨by kernel_rfl⟩
instance zon : AgT Tryz.prog 47 2 := ⟨by kernel_rfl⟩
instance zoo : FdT Tryz.prog 47 0 0 2 := ⟨by kernel_rfl, by kernel_rfl⟩
instance zop : FdT Tryz.prog 47 1 1 2 := ⟨by kernel_rfl, by kernel_rfl⟩
instance zoq : PlT Tryz.prog 47 [(0, 1), (1, 1)] := ⟨by kernel_rfl⟩
instance zor : ZrT Tryz.prog 47 [.int .i64 0, .int .i64 0] := ⟨by kernel_rfl, by kernel_rfl⟩
instance zos : SlT Tryz.prog 50 23 1 8 := ⟨by kernel_rfl⟩
instance zot : SlT Tryz.prog 59 9 1 16 := ⟨by kernel_rfl⟩
instance zou : ItT Tryz.prog 60 .u64 := ⟨by kernel_rfl⟩
instance zov : SlT Tryz.prog 63 23 1 8 := ⟨by kernel_rfl⟩
instance zow : SlT Tryz.prog 73 5 1 1 := ⟨by kernel_rfl⟩
instance zox : ArT Tryz.prog 114 8 23 1 := ⟨by kernel_rfl⟩
instance zoy : ZrT Tryz.prog 114 [.int .u64 0, .int .u64 0, .int .u64 0, .int .u64 0, .int .u64 0, .int .u64 0, .int .u64 0, .int .u64 0] := ⟨by kernel_rfl, by kernel_rfl⟩
end Go.Proofs.YtpnbgalbdohfgaaGreatDoor
namespace Go.Proofs.YtpnbgalbdohfgaaGreatDoor
open Go.RowKit Go.Ab Go.Wd
theorem zha (a : Nat) (ha : a < 18446744073709551616) : bits .and .u64 (a : Int) 4294967295 = ((a % 4294967296 : Nat) : Int) := by
 have h := bits_and_u64_nat a 4294967295 ha (by omega)
 have e : a &&& 4294967295 = a % 4294967296 := Nat.and_two_pow_sub_one_eq_mod a 32
 rw [e] at h
 exact h
theorem zer (a : Nat) : (a : Int).fdiv (2 ^ (min (32 : Int).toNat (IntKind.bits .u64))) = ((a / 4294967296 : Nat) : Int) := by
 rw [show min (32 : Int).toNat (IntKind.bits .u64) = 32 from rfl, Int.fdiv_eq_ediv_of_nonneg _ (by omega)]
 omega
theorem zfc (a b : Nat) (h : a * b < 18446744073709551616) : IntKind.u64.wrap ((a : Int) * (b : Int)) = ((a * b : Nat) : Int) := by
 rw [← Int.natCast_mul, IntKind.wrap_u64]; omega
theorem zcB (a b : Nat) (h : a + b < 18446744073709551616) : IntKind.u64.wrap ((a : Int) + (b : Int)) = ((a + b : Nat) : Int) := by
 rw [IntKind.wrap_u64]; omega
theorem zlR (a b : Nat) : IntKind.u64.wrap ((a : Int) * (b : Int)) = ((a * b % 18446744073709551616 : Nat) : Int) := by
 rw [← Int.natCast_mul, IntKind.wrap_u64]; omega
theorem zka (x y : Nat) (hx : x < B64) (hy : y < B64) : zaq Tryz.prog 82 [.r (.v (.int .u64 (x : Int))), .r (.v (.int .u64 (y : Int)))] [] (.tu [.r (.v (.int .u64 ((x * y / B64 : Nat) : Int))), .r (.v (.int .u64 ((x * y % B64 : Nat) : Int)))]) [] := by
 refine zaw Tryz.func82 rfl (Nat.le_of_ble_eq_true rfl) rfl rfl ?_
 obtain ⟨bd, bt, bw, hhi⟩ := Lib.mul64_hi x y hx hy
 have ba := Lib.half_mul_le (a := x / 4294967296) (b := y / 4294967296) (by unfold B64 at *; omega) (by unfold B64 at *; omega)
 have bb := Lib.half_mul_le (a := x / 4294967296) (b := y % 4294967296) (by unfold B64 at *; omega) (by omega)
 have bc := Lib.half_mul_le (a := x % 4294967296) (b := y / 4294967296) (by omega) (by unfold B64 at *; omega)
 have m1 := zha x hx
 have m2 := zha y hy
 have s1 := zer x
 have s2 := zer y
 have p4 := zlR x y
 generalize hx0 : x % 4294967296 = x0 at *
 generalize hx1 : x / 4294967296 = x1 at *
 generalize hy0 : y % 4294967296 = y0 at *
 generalize hy1 : y / 4294967296 = y1 at *
 have p1 := zfc x0 y0 (by omega)
 have p2 := zfc x1 y0 (by omega)
 have p3 := zfc x0 y1 (by omega)
 have p5 := zfc x1 y1 (by omega)
 have s3 := zer (x0 * y0)
 have a1 := zcB (x1 * y0) (x0 * y0 / 4294967296) bt
 generalize x1 * y0 + x0 * y0 / 4294967296 = tt at *
 have m3 := zha tt bt
 have s4 := zer tt
 have a2 := zcB (tt % 4294967296) (x0 * y1) bw
 generalize tt % 4294967296 + x0 * y1 = w1 at *
 have s5 := zer w1
 have a3 := zcB (x1 * y1) (tt / 4294967296) (by omega)
 have a4 := zcB (x1 * y1 + tt / 4294967296) (w1 / 4294967296) (by omega)
 rw [hhi] at a4
 generalize x1 * y1 + tt / 4294967296 = v at *
 generalize x0 * y1 = q1 at *
 generalize x1 * y1 = q2 at *
 generalize x1 * y0 = q3 at *
 generalize x0 * y0 = q4 at *
 (repeat' (first | refine zae ?_ | (refine zab (fun hb => ?_) (fun hb => ?_) <;> (try (exfalso; omega))) | fail))
 all_goals exact ret2 [] (.int rfl) (.int rfl) rfl rfl rfl rfl
section
variable {env : Nat → AV} {H : Nat → Option Blk} {d : Option Tmp} {ty : TypeId} {pos : String} {af : Array Edge} {g : Option (Nat × Bool)} {x y z : Operand} {t1 t2 t3 : TypeId}
theorem zc5 {a b c : Nat} (hx : evA env x = .r (.v (.int .u64 (a : Int)))) (hy : evA env y = .r (.v (.int .u64 (b : Int)))) (hz : evA env z = .r (.v (.int .u64 (c : Int)))) (hc : c ≤ 1) :
  zas Tryz.prog ⟨d, .call { callee := .value (.func 83), args := #[x, y, z], argTypes := #[t1, t2, t3] }, ty, pos, af, g⟩ env H [] (.tu [.r (.v (.int .u64 (((a + b + c) % B64 : Nat) : Int))), .r (.v (.int .u64 (((a + b + c) / B64 : Nat) : Int)))]) := by
 refine ⟨fun i b h => by simp at h, fun i hi => by simp [AV.ids, AV.idss] at hi, fun ac w Z M hr _ => ?_⟩
 have h1 := ev_v hx (hr x (by simp [Op.operands, Call.operands]))
 have h2 := ev_v hy (hr y (by simp [Op.operands, Call.operands]))
 have h3 := ev_v hz (hr z (by simp [Op.operands, Call.operands]))
 have hrun : (callFunc 83 #[.int .u64 (a : Int), .int .u64 (b : Int), .int .u64 (c : Int)]).run Tryz.prog w = .ok (.value (.tuple #[.int .u64 (((a + b + c) % B64 : Nat) : Int), .int .u64 (((a + b + c) / B64 : Nat) : Int)])) w := by
  rw [run_callFunc_extern Tryz.func83 (by kernel_rfl) (by kernel_rfl) (by kernel_rfl) (e := add64Entry) (by kernel_rfl), run_add64 a b c (by omega) (by omega) (by omega) (by omega)]
  simp only [Result.andThen]
  congr 5 <;> (unfold B64; omega)
 refine ⟨_, ?_, by rw [AV.rep]; exact ⟨_, rfl, by simp only [AV.reps, AV.rep, RV.rep]; exact ⟨_, _, rfl, rfl, _, _, rfl, rfl, rfl⟩⟩⟩
 have h4 : ac.eval (.func 83) = .func (.func 83) #[] #[] := rfl
 simp only [execOp, resolve, h4, Deferred.ofValue, Sem.run_bind, Sem.run_pure, Result.andThen_ok, invoke, List.map_toArray, List.map_cons, List.map_nil, h1, h2, h3]
 simpa using hrun
theorem ziK {a b : Nat} (hx : evA env x = .r (.v (.int .u64 (a : Int)))) (hy : evA env y = .r (.v (.int .u64 (b : Int)))) (hz : evA env z = .r (.v (.int .u64 0))) :
  zas Tryz.prog ⟨d, .call { callee := .value (.func 83), args := #[x, y, z], argTypes := #[t1, t2, t3] }, ty, pos, af, g⟩ env H [] (.tu [.r (.v (.int .u64 (((a + b) % B64 : Nat) : Int))), .r (.v (.int .u64 (((a + b) / B64 : Nat) : Int)))]) :=
 zc5 (c := 0) hx hy hz (by omega)
end
def wns (l : List Nat) : List (List RV) := l.map fun (a : Nat) => [.v (.int .u64 (a : Int))]
theorem zaY (l : List Nat) : (wns l).length = l.length := by unfold wns; simp
theorem zbj {l : List Nat} {i : Nat} (h : i < l.length) : (wns l)[i]? = some [.v (.int .u64 (l.getD i 0 : Nat))] := by unfold wns; simp [h]
theorem zi3 (l : List Nat) (k : Nat) : (wns l).take k = wns (l.take k) := by unfold wns; rw [List.map_take]
theorem zgy (l m : List Nat) : wns (l ++ m) = wns l ++ wns m := by unfold wns; rw [List.map_append]
theorem zdd (l : List Nat) (i v : Nat) : (wns l).set i [.v (.int .u64 (v : Int))] = wns (l.set i v) := by unfold wns; rw [List.map_set]
theorem ziC (n : Nat) (h : n < 9223372036854775808) : IntKind.i64.wrap (((n + 1 : Nat) : Int) - 1) = (n : Int) := by rw [IntKind.wrap_i64]; omega
def trS (l : List Nat) : St := ⟨[(0, .r (.sl 1 (wns l)))], [], 0⟩
theorem zgh (l : List Nat) : l = [] ∨ ∃ m a, l = m ++ [a] := by
 rcases List.eq_nil_or_concat l with h | ⟨m, a, h⟩
 ·exact .inl h
 ·exact .inr ⟨m, a, by simpa using h⟩
theorem znW (l : List Nat) (hl : l.length ≤ 9223372036854775800) : zaq Tryz.prog 50 [.r (.sl 1 (wns l))] [] (.r (.sl 1 (wns (trim l)))) [] := by
 refine zaw Tryz.func50 rfl (Nat.le_of_ble_eq_true rfl) rfl rfl ?_
 (repeat' (first | refine zae ?_ | (refine zab (fun hb => ?_) (fun hb => ?_) <;> (try (exfalso; omega))) | fail))
 refine zap trS (fun x => trim x = trim l ∧ x.length ≤ l.length) (fun x => x.length) l ⟨rfl, Nat.le_refl _⟩ (by (refine Le.mk [] [] zai zal zak zah)) fun x hx => ?_
 obtain ⟨hx, hxl⟩ := hx
 rcases zgh x with rfl | ⟨m, a, rfl⟩
 ·rw [← hx]
  have h0 : (wns []).length = 0 := rfl
  (repeat' (first | refine zae ?_ | (refine zab (fun hb => ?_) (fun hb => ?_) <;> (try (exfalso; omega))) | fail))
  all_goals (first | exact ret1 [] (.r _) rfl rfl rfl | (exfalso; omega))
 ·have hlen : (wns (m ++ [a])).length = m.length + 1 := by rw [zaY]; simp
  have hml : m.length + 1 ≤ l.length := by simpa using hxl
  have hw : IntKind.i64.wrap (((wns (m ++ [a])).length : Int) - 1) = (m.length : Int) := by rw [hlen]; exact ziC _ (by omega)
  have hg : (wns (m ++ [a]))[m.length]? = some [.v (.int .u64 (a : Int))] := by rw [zbj (by simp)]; simp
  have ht : (wns (m ++ [a])).take m.length = wns m := by rw [zi3]; simp
  by_cases ha : a = 0
  ·subst ha
   rw [zfS] at hx
   (repeat' (first | refine zae ?_ | (refine zab (fun hb => ?_) (fun hb => ?_) <;> (try (exfalso; omega))) | fail))
   all_goals (first | (exfalso; omega) | exact ⟨m, ⟨hx, by omega⟩, by show Le _ _ (trS m); rw [ht]; (refine Le.mk [] [] zai zal zak zah), by show m.length < (m ++ [0]).length; simp⟩)
  ·rw [zfR m a ha] at hx
   rw [← hx]
   (repeat' (first | refine zae ?_ | (refine zab (fun hb => ?_) (fun hb => ?_) <;> (try (exfalso; omega))) | fail))
   all_goals (first | (exfalso; omega) | exact ret1 [] (.r _) rfl rfl rfl)
def trO (l : List Nat) : St := ⟨[(0, .ow 1)], [(1, some (.row 23 1 (wns l)))], 2⟩
def trL (y : List Nat) (k : Nat) : St := ⟨[(0, .ol 1 k)], [(1, some (.row 23 1 (wns y)))], 2⟩
theorem zfT (l : List Nat) (hl : l.length ≤ 9223372036854775800) : zaq Tryz.prog 50 [.ow 0] [.row 23 1 (wns l)] (.fr 23 1 (wns (trim l))) [none] := by
 refine zaw Tryz.func50 rfl (Nat.le_of_ble_eq_true rfl) rfl rfl ?_
 (repeat' (first | refine zae ?_ | (refine zab (fun hb => ?_) (fun hb => ?_) <;> (try (exfalso; omega))) | fail))
 refine zir 0 (m := (wns l).length) (.inr ⟨rfl, rfl⟩) rfl (Nat.le_refl _) rfl rfl ?_
 rw [List.take_length]
 refine zap (fun o : Option (List Nat × Nat) => match o with | none => trO l | some p => trL p.1 p.2) (fun o => match o with | none => True | some p => trim (p.1.take p.2) = trim l ∧ p.2 ≤ p.1.length ∧ p.1.length ≤ l.length ∧ p.2 < l.length) (fun o => match o with | none => l.length | some p => p.2) none trivial (by (refine Le.mk [(1,1)] [] zai zal zak zah)) fun o ho => ?_
 have key : ∀ (x : List Nat), x.length ≤ l.length → (x = [] ∧ (wns x).length = 0) ∨ ∃ m a, x = m ++ [a] ∧ (wns x).length = m.length + 1 ∧ IntKind.i64.wrap (((wns x).length : Int) - 1) = (m.length : Int) ∧ (wns x)[m.length]? = some [.v (.int .u64 (a : Int))] := by
  intro x hx
  rcases zgh x with rfl | ⟨m, a, rfl⟩
  ·exact .inl ⟨rfl, rfl⟩
  ·have hlen : (wns (m ++ [a])).length = m.length + 1 := by rw [zaY]; simp
   have : m.length + 1 ≤ l.length := by simpa using hx
   refine .inr ⟨m, a, rfl, hlen, by rw [hlen]; exact ziC _ (by omega), by rw [zbj (by simp)]; simp⟩
 cases o with
 | none =>
  change awp _ _ _ _ _ (trO l)
  rcases key l (Nat.le_refl _) with ⟨h1, h0⟩ | ⟨m, a, h1, hlen, hw, hg⟩
  ·rw [h1] at h0 ⊢
   (repeat' (first | refine zae ?_ | (refine zab (fun hb => ?_) (fun hb => ?_) <;> (try (exfalso; omega))) | fail))
   all_goals (first | exact zbC [] (.fr 1 _ _ _ rfl) rfl rfl (zan rfl) rfl | (exfalso; omega))
  ·have hml : m.length + 1 = l.length := by rw [h1]; simp
   by_cases ha : a = 0
   ·subst ha
    (repeat' (first | refine zae ?_ | (refine zab (fun hb => ?_) (fun hb => ?_) <;> (try (exfalso; omega))) | fail))
    all_goals (first | (exfalso; omega) | exact ⟨some (l, m.length), ⟨by show trim (l.take m.length) = trim l; rw [h1, zfS]; simp, by show m.length ≤ l.length; omega, Nat.le_refl _, by show m.length < l.length; omega⟩, by show Le _ _ (trL l m.length); (refine Le.mk [(1,1)] [] zai zal zak zah), by show m.length < l.length; omega⟩)
   ·have e : trim l = l := by rw [h1, zfR m a ha]
    rw [e]
    (repeat' (first | refine zae ?_ | (refine zab (fun hb => ?_) (fun hb => ?_) <;> (try (exfalso; omega))) | fail))
    all_goals (first | (exfalso; omega) | exact zbC [] (.fr 1 _ _ _ rfl) rfl rfl (zan rfl) rfl)
 | some p =>
  obtain ⟨y, k⟩ := p
  obtain ⟨hx, hk, hyl, hkl⟩ := ho
  dsimp only at hx hk hyl hkl
  change awp _ _ _ _ _ (trL y k)
  refine zir 0 (m := k) (.inl rfl) rfl (by rw [zaY]; exact hk) rfl rfl ?_
  rw [zi3]
  have hxl : (y.take k).length = k := by rw [List.length_take]; omega
  generalize y.take k = x at *
  rcases key x (by omega) with ⟨h1, h0⟩ | ⟨m, a, h1, hlen, hw, hg⟩
  ·rw [← hx]
   rw [h1] at h0 ⊢
   (repeat' (first | refine zae ?_ | (refine zab (fun hb => ?_) (fun hb => ?_) <;> (try (exfalso; omega))) | fail))
   all_goals (first | exact zbC [] (.fr 2 _ _ _ rfl) rfl rfl (zan rfl) rfl | (exfalso; omega))
  ·have hml : m.length + 1 = k := by rw [← hxl, h1]; simp
   by_cases ha : a = 0
   ·subst ha
    (repeat' (first | refine zae ?_ | (refine zab (fun hb => ?_) (fun hb => ?_) <;> (try (exfalso; omega))) | fail))
    all_goals (first | (exfalso; omega) | exact ⟨some (x, m.length), ⟨by show trim (x.take m.length) = trim l; rw [← hx, h1, zfS]; simp, by show m.length ≤ x.length; omega, by show x.length ≤ l.length; omega, by show m.length < l.length; omega⟩, by show Le _ _ (trL x m.length); (refine Le.mk [(1,2)] [] zai zal zak zah), by show m.length < k; omega⟩)
   ·have e : trim x = x := by rw [h1, zfR m a ha]
    rw [← hx, e]
    (repeat' (first | refine zae ?_ | (refine zab (fun hb => ?_) (fun hb => ?_) <;> (try (exfalso; omega))) | fail))
    all_goals (first | (exfalso; omega) | exact zbC [] (.fr 2 _ _ _ rfl) rfl rfl (zan rfl) rfl)
def wd (b : Bool) (n : Nat) : AV := .ag [.r (.v (.bool b)), .r (.v (.int .u64 ((n % B64 : Nat) : Int))), .r (.v (.int .u64 ((n / B64 % B64 : Nat) : Int))), .r (.v (.int .u64 ((n / B64 / B64 % B64 : Nat) : Int))), .r (.v (.int .u64 ((n / B64 / B64 / B64 % B64 : Nat) : Int)))]
theorem of_m (b : Bool) (n : Nat) (hn : n < B64 ^ 4) : zaq Tryz.prog 27 [wd b n] [] (.r (.sl 1 (wns (tw n)))) [] := by
 have ht : trim (ws n 4) = tw n := by rw [zdb _ (zdM 4 n), zdL 4 n hn]
 rw [← ht]
 refine zaq.freeze (T := 23) ?_
 refine zaw Tryz.func27 rfl (Nat.le_of_ble_eq_true rfl) rfl rfl ?_
 have hso : List.take 4 (List.drop 1 [AV.r (.v (.bool b)), .r (.v (.int .u64 ((n % B64 : Nat) : Int))), .r (.v (.int .u64 ((n / B64 % B64 : Nat) : Int))), .r (.v (.int .u64 ((n / B64 / B64 % B64 : Nat) : Int))), .r (.v (.int .u64 ((n / B64 / B64 / B64 % B64 : Nat) : Int)))]) = (wns (ws n 4)).flatten.map .r := rfl
 have h1 : ∀ e ∈ wns (ws n 4), e.length = 1 := by
  intro e he
  unfold wns at he
  obtain ⟨a, _, rfl⟩ := List.mem_map.1 he
  rfl
 have h2 : (wns (ws n 4)).length = 4 := rfl
 have h3 : ([] ++ wns (ws n 4)) = wns (ws n 4) := rfl
 (repeat' (first | refine zae ?_ | (refine is_f 50 ?_; refine ze7 (zfT (ws n 4) (by rw [zcC]; omega)) ?_) | (refine zab (fun hb => ?_) (fun hb => ?_) <;> (try (exfalso; omega))) | fail))
 all_goals (first | exact ret1 [] (.fr 1 _ _ _ rfl) rfl rfl rfl | exact ret1 [] (.fr 2 _ _ _ rfl) rfl rfl rfl | exact ret1 [] (.fr 3 _ _ _ rfl) rfl rfl rfl)
def cmpN (m n : Nat) : Int := if m < n then -1 else if n < m then 1 else 0
theorem zhN (l : List Nat) (i : Nat) (h : i < l.length) : val l = val (l.take i) + B64 ^ i * (l.getD i 0 + B64 * val (l.drop (i + 1))) := by
 have h1 := zcg (l.take i) (l.drop i)
 rw [List.take_append_drop, zdJ l i h, List.length_take, Nat.min_eq_left (Nat.le_of_lt h)] at h1
 exact h1
theorem zfX (l : List Nat) (hw : Wds l) (i : Nat) (h : i ≤ l.length) : val (l.take i) < B64 ^ i := by
 have h1 := zgv (l.take i) (fun a ha => hw a (List.mem_of_mem_take ha))
 rw [List.length_take, Nat.min_eq_left h] at h1
 exact h1
theorem zix {x y a b s t i v : Nat} (hs : s < B64 ^ i) (ht : t < B64 ^ i) (hx : x = s + B64 ^ i * (a + B64 * v)) (hy : y = t + B64 ^ i * (b + B64 * v)) (hab : a < b) : x < y := by
 have : B64 ^ i * (a + B64 * v + 1) ≤ B64 ^ i * (b + B64 * v) := Nat.mul_le_mul (Nat.le_refl _) (by omega)
 rw [Nat.mul_add] at this
 omega
theorem zeP {m n : Nat} (h : (tw m).length < (tw n).length) : m < n := by
 have h1 := zkU _ m (Nat.le_refl _)
 rcases Nat.lt_or_ge m n with h' | h'
 ·exact h'
 ·have := zbk (tw m).length n (Nat.lt_of_le_of_lt h' h1)
  omega
def cpS (m n : Nat) (z : Int) : St := ⟨[(0, .r (.sl 1 (wns (tw m)))), (1, .r (.sl 1 (wns (tw n)))), (5, .r (.v (.int .i64 z)))], [], 0⟩
theorem zeb (m n : Nat) (hm : (tw m).length ≤ 1000000) (hn : (tw n).length ≤ 1000000) : zaq Tryz.prog 59 [.r (.sl 1 (wns (tw m))), .r (.sl 1 (wns (tw n)))] [] (.r (.v (.int .i64 (cmpN m n)))) [] := by
 refine zaw Tryz.func59 rfl (Nat.le_of_ble_eq_true rfl) rfl rfl ?_
 have l1 := zaY (tw m)
 have l2 := zaY (tw n)
 have c1 : (tw m).length < (tw n).length → (-1 : Int) = cmpN m n := fun h => by
  have := zeP h
  unfold cmpN; rw [if_pos this]
 have c2 : (tw n).length < (tw m).length → (1 : Int) = cmpN m n := fun h => by
  have := zeP h
  unfold cmpN; rw [if_neg (by omega), if_pos this]
 (repeat' (first | refine zae ?_ | (refine zab (fun hb => ?_) (fun hb => ?_) <;> (try (exfalso; omega))) | fail))
 all_goals (first | (exfalso; omega) | exact ret1 [] (.int (c1 (by omega))) rfl rfl rfl | exact ret1 [] (.int (c2 (by omega))) rfl rfl rfl | skip)
 have hlen : (tw m).length = (tw n).length := by omega
 have e1 := zaV m
 have e2 := zaV n
 have w1 := zbe m
 have w2 := zbe n
 refine zap (fun j : Nat => cpS m n ((j : Int) - 1)) (fun j => j ≤ (tw m).length ∧ (tw m).drop j = (tw n).drop j) (fun j => j) (tw m).length ⟨Nat.le_refl _, by rw [List.drop_length, hlen, List.drop_length]⟩ (by (refine Le.mk [] [] zai zal zak zah)) fun j hj => ?_
 obtain ⟨hj1, hj2⟩ := hj
 cases j with
 | zero =>
  change awp _ _ _ _ _ (cpS m n (-1))
  have : m = n := by
   rw [List.drop_zero, List.drop_zero] at hj2
   rw [← e1, ← e2, hj2]
  have c3 : (0 : Int) = cmpN m n := by unfold cmpN; rw [if_neg (by omega), if_neg (by omega)]
  (repeat' (first | refine zae ?_ | (refine zab (fun hb => ?_) (fun hb => ?_) <;> (try (exfalso; omega))) | fail))
  all_goals (first | (exfalso; omega) | exact ret1 [] (.int c3) rfl rfl rfl)
 | succ i =>
  have hi : i < (tw m).length := hj1
  have hi2 : i < (tw n).length := by omega
  have g1 := zbj (l := tw m) hi
  have g2 := zbj (l := tw n) hi2
  have v1 := zhN (tw m) i hi
  have v2 := zhN (tw n) i hi2
  have t1 := zfX (tw m) w1 i (by omega)
  have t2 := zfX (tw n) w2 i (by omega)
  rw [e1] at v1
  rw [e2, ← hj2] at v2
  have hw : IntKind.i64.wrap ((i : Int) - 1) = ((i : Int) - 1) := by rw [IntKind.wrap_i64]; omega
  have hc : (((i + 1 : Nat) : Int) - 1) = (i : Int) := by omega
  change awp _ _ _ _ _ (cpS m n (((i + 1 : Nat) : Int) - 1))
  rw [hc]
  have d1 : (tw m).drop i = (tw m).getD i 0 :: (tw m).drop (i + 1) := by
   rw [List.drop_eq_getElem_cons hi]; simp [hi]
  have d2 : (tw n).drop i = (tw n).getD i 0 :: (tw n).drop (i + 1) := by
   rw [List.drop_eq_getElem_cons hi2]; simp [hi2]
  have lt1 : (tw m).getD i 0 < (tw n).getD i 0 → (-1 : Int) = cmpN m n := fun h => by
   have := zix t1 t2 v1 v2 h
   unfold cmpN; rw [if_pos this]
  have lt2 : (tw n).getD i 0 < (tw m).getD i 0 → (1 : Int) = cmpN m n := fun h => by
   have := zix t2 t1 v2 v1 h
   unfold cmpN; rw [if_neg (by omega), if_pos this]
  have same : (tw m).getD i 0 = (tw n).getD i 0 → (tw m).drop i = (tw n).drop i := fun h => by rw [d1, d2, h, hj2]
  clear v1 v2 t1 t2 e1 e2 d1 d2 w1 w2
  generalize (tw m).getD i 0 = a at *
  generalize (tw n).getD i 0 = b at *
  (repeat' (first | refine zae ?_ | (refine zab (fun hb => ?_) (fun hb => ?_) <;> (try (exfalso; omega))) | fail))
  all_goals (first | (exfalso; omega) | exact ret1 [] (.int (lt1 (by omega))) rfl rfl rfl | exact ret1 [] (.int (lt2 (by omega))) rfl rfl rfl | exact ⟨i, ⟨by omega, same (by omega)⟩, by show Le _ _ (cpS m n ((i : Int) - 1)); (refine Le.mk [] [] zai zal zak zah), by show i < i + 1; omega⟩)
theorem ziQ {p s c : Nat} (hp : p ≤ (B64 - 1) * (B64 - 1)) (hs : s < B64) (hc : c < B64) :
  ((p % B64 + s) % B64 + c) % B64 = (p + s + c) % B64 ∧ p / B64 + (p % B64 + s) / B64 + ((p % B64 + s) % B64 + c) / B64 = (p + s + c) / B64 ∧ p / B64 + (p % B64 + s) / B64 < B64 ∧ (p + s + c) / B64 < B64 := by
 unfold B64 at *
 omega
theorem zf1 {x y : Nat} (hx : x < B64) (hy : y < B64) : x * y ≤ (B64 - 1) * (B64 - 1) := Nat.mul_le_mul (by omega) (by omega)
def muO (a b : List Nat) (i : Nat) (l : List Nat) : St := ⟨[(0, .r (.sl 1 (wns a))), (1, .r (.sl 1 (wns b))), (5, .ow 0), (6, .r (.v (.int .i64 (i : Int))))], [(0, some (.row 23 1 (wns l)))], 1⟩
def muI (a b : List Nat) (i : Nat) (k c : Nat) (l : List Nat) : St := ⟨[(0, .r (.sl 1 (wns a))), (1, .r (.sl 1 (wns b))), (5, .ow 0), (6, .r (.v (.int .i64 (i : Int)))), (7, .r (.v (.int .u64 (c : Int)))), (8, .r (.v (.int .i64 (k : Int))))], [(0, some (.row 23 1 (wns l)))], 1⟩
theorem zeh (a b : Nat) (h : a + b < 9223372036854775808) : IntKind.i64.wrap ((a : Int) + (b : Int)) = ((a + b : Nat) : Int) := by rw [IntKind.wrap_i64]; omega
theorem zbg (a : Nat) (h : a + 1 < 9223372036854775808) : IntKind.i64.wrap ((a : Int) + 1) = ((a + 1 : Nat) : Int) := by rw [IntKind.wrap_i64]; omega
theorem zel (a b : List Nat) (hwa : Wds a) (hwb : Wds b) (hla : a.length ≤ 1000) (hlb : b.length ≤ 1000) : zaq Tryz.prog 57 [.r (.sl 1 (wns a)), .r (.sl 1 (wns b))] [] (.r (.sl 1 (wns (tw (val a * val b))))) [] := by
 obtain ⟨ml1, ml2, ml3⟩ := zkb a b (a.length + b.length + 1) hwa hwb (by omega)
 have l1 := zaY a
 have l2 := zaY b
 have s1 := zeh a.length b.length (by omega)
 have s2 := zbg (a.length + b.length) (by omega)
 rw [← l1, ← l2] at s1
 rw [← l1, ← l2] at s2
 have hz : List.replicate ((wns a).length + (wns b).length + 1) (List.map RV.v [Value.int IntKind.u64 0]) = wns (List.replicate (a.length + b.length + 1) 0) := by
  rw [l1, l2]; unfold wns; rw [List.map_replicate]; rfl
 obtain ⟨R, hR⟩ : ∃ R, R = mOut a b a.length 0 (List.replicate (a.length + b.length + 1) 0) := ⟨_, rfl⟩
 rw [← hR] at ml1 ml2 ml3
 have hTR : trim R = tw (val a * val b) := by rw [zdb R ml1, ml3]
 rw [← hTR]
 refine zaq.freeze (T := 23) ?_
 refine zaw Tryz.func57 rfl (Nat.le_of_ble_eq_true rfl) rfl rfl ?_
 (repeat' (first | refine zae ?_ | (refine zab (fun hb => ?_) (fun hb => ?_) <;> (try (exfalso; omega))) | fail))
 refine zap (fun x : Nat × List Nat => muO a b x.1 x.2) (fun x => x.1 ≤ a.length ∧ x.2.length = a.length + b.length + 1 ∧ Wds x.2 ∧ mOut a b (a.length - x.1) x.1 x.2 = R) (fun x => a.length - x.1) (0, List.replicate (a.length + b.length + 1) 0) ⟨Nat.zero_le _, by simp, fun x hx => by rw [List.eq_of_mem_replicate hx]; decide, hR.symm⟩ (by (refine Le.mk [] [] zai zal zak zah)) fun x hx => ?_
 obtain ⟨i, l⟩ := x
 obtain ⟨hx1, hx2, hx3, hx4⟩ := hx
 dsimp only at hx1 hx2 hx3 hx4
 change awp _ _ _ _ _ (muO a b i l)
 rcases Nat.lt_or_ge i a.length with hi | hi
 ·have hx0 := hwa.get i
  have ga := zbj (l := a) hi
  obtain ⟨j, hj⟩ : ∃ j, a.length - i = j + 1 := ⟨a.length - i - 1, by omega⟩
  have hj2 : j = a.length - (i + 1) := by omega
  rw [hj, mOut] at hx4
  subst hj2
  generalize a.getD i 0 = x at *
  (repeat' (first | refine zae ?_ | (refine zab (fun hb => ?_) (fun hb => ?_) <;> (try (exfalso; omega))) | fail))
  refine zap (fun y : Nat × Nat × List Nat => muI a b i y.1 y.2.1 y.2.2) (fun y => y.1 ≤ b.length ∧ y.2.2.length = a.length + b.length + 1 ∧ Wds y.2.2 ∧ y.2.1 < B64 ∧ mIn x b i (b.length - y.1) y.1 y.2.1 y.2.2 = mIn x b i b.length 0 0 l) (fun y => b.length - y.1) (0, 0, l) ⟨Nat.zero_le _, hx2, hx3, by show 0 < B64; decide, rfl⟩ (by (refine Le.mk [] [] zai zal zak zah)) fun y hy => ?_
  obtain ⟨k, c, m⟩ := y
  obtain ⟨hy1, hy2, hy3, hy4, hy5⟩ := hy
  dsimp only at hy1 hy2 hy3 hy4 hy5
  change awp _ _ _ _ _ (muI a b i k c m)
  rcases Nat.lt_or_ge k b.length with hk | hk
  ·have hy0 := hwb.get k
   have gb := zbj (l := b) hk
   have gm := zbj (l := m) (i := i + k) (by omega)
   have hm0 := hy3.get (i + k)
   obtain ⟨q, hq⟩ : ∃ q, b.length - k = q + 1 := ⟨b.length - k - 1, by omega⟩
   have hq2 : q = b.length - (k + 1) := by omega
   rw [hq, mIn] at hy5
   subst hq2
   have sik := zeh i k (by omega)
   have cM := zka x (b.getD k 0) hx0 hy0
   generalize b.getD k 0 = y at *
   generalize m.getD (i + k) 0 = s at *
   obtain ⟨r1, r2, r3, r4⟩ := ziQ (zf1 hx0 hy0) hm0 hy4
   have a1 := zcB (x * y / B64) ((x * y % B64 + s) / B64) r3
   have a2 := zcB (x * y / B64 + (x * y % B64 + s) / B64) (((x * y % B64 + s) % B64 + c) / B64) (by rw [r2]; exact r4)
   rw [r2] at a2
   have hE : (wns m).set (i + k) [.v (.int .u64 ((((x * y % B64 + s) % B64 + c) % B64 : Nat) : Int))] = wns (m.set (i + k) ((x * y + s + c) % B64)) := by rw [r1, zdd]
   have hr5 : (x * y + s + c) % B64 < B64 := by unfold B64; omega
   clear r1 r2
   (repeat' (first | refine zae ?_ | (refine is_f 82 ?_; refine zaf (cM) ?_) | ((refine is_f 83 ?_; refine zag rfl zaa (ziK rfl rfl rfl) ?_); try dsimp only [AV.unfr, AV.unfrs, frsL, zaO, rdOf, @List.length_cons Blk, @List.length_nil Blk, @List.nil_append (Nat × Option Blk), @List.cons_append (Nat × Option Blk), @List.nil_append Blk, @List.cons_append Blk, Nat.add_zero, Nat.zero_add, Nat.reduceAdd]) | (refine zab (fun hb => ?_) (fun hb => ?_) <;> (try (exfalso; omega))) | fail))
   all_goals exact ⟨(k + 1, (x * y + s + c) / B64, m.set (i + k) ((x * y + s + c) % B64)), ⟨hk, by rw [List.length_set]; exact hy2, hy3.set _ hr5, r4, hy5⟩, by show Le _ _ (muI a b i (k + 1) ((x * y + s + c) / B64) (m.set (i + k) ((x * y + s + c) % B64))); (refine Le.mk [] [] zai zal zak zah), by show b.length - (k + 1) < b.length - k; omega⟩
  ·have hke : b.length - k = 0 := by omega
   have hkk : k = b.length := by omega
   rw [hke, mIn] at hy5
   rw [← hy5] at hx4
   dsimp only at hx4
   have sib := zeh i b.length (by omega)
   rw [← l2] at sib
   have gm := zbj (l := m) (i := i + (wns b).length) (by omega)
   have hE : (wns m).set (i + (wns b).length) [.v (.int .u64 (c : Int))] = wns (m.set (i + b.length) c) := by rw [zdd, l2]
   (repeat' (first | refine zae ?_ | (refine zab (fun hb => ?_) (fun hb => ?_) <;> (try (exfalso; omega))) | fail))
   all_goals exact ⟨(i + 1, m.set (i + b.length) c), ⟨hi, by rw [List.length_set]; exact hy2, hy3.set _ hy4, hx4⟩, by show Le _ _ (muO a b (i + 1) (m.set (i + b.length) c)); (refine Le.mk [] [] zai zal zak zah), by show a.length - (i + 1) < a.length - i; omega⟩
 ·have hie : a.length - i = 0 := by omega
  rw [hie, mOut] at hx4
  subst hx4
  (repeat' (first | refine zae ?_ | (refine is_f 50 ?_; refine zbh (zfT l (by omega)) ?_) | (refine zab (fun hb => ?_) (fun hb => ?_) <;> (try (exfalso; omega))) | fail))
  all_goals (first | exact ret1 [] (.fr 1 _ _ _ rfl) rfl rfl rfl | exact ret1 [] (.fr 2 _ _ _ rfl) rfl rfl rfl)
theorem Rt.agR {H : Nat → Option Blk} {L : Nat} {G : List Nat} : ∀ (cs : List RV), RtL H L G (cs.map .r) (cs.map .r) []
 | [] => .nil
 | c :: cs => .cons _ _ _ _ [] [] (.r c) (Rt.agR cs)
theorem Rt.wd {H : Nat → Option Blk} {L : Nat} {G : List Nat} (b : Bool) (n : Nat) : Rt H L G (Go.Proofs.YtpnbgalbdohfgaaGreatDoor.wd b n) (Go.Proofs.YtpnbgalbdohfgaaGreatDoor.wd b n) [] := .ag _ _ _ (Rt.agR [.v (.bool b), .v (.int .u64 ((n % B64 : Nat) : Int)), .v (.int .u64 ((n / B64 % B64 : Nat) : Int)), .v (.int .u64 ((n / B64 / B64 % B64 : Nat) : Int)), .v (.int .u64 ((n / B64 / B64 / B64 % B64 : Nat) : Int))])
theorem zoe (n : Nat) (hn : n < B64 ^ 4) : tw n ++ List.replicate (4 - (tw n).length) 0 = ws n 4 := by
 have hl := zbk 4 n hn
 have hlen : (tw n ++ List.replicate (4 - (tw n).length) 0).length = 4 := by rw [List.length_append, List.length_replicate]; omega
 have hw : Wds (tw n ++ List.replicate (4 - (tw n).length) 0) := by
  intro a ha
  rcases List.mem_append.1 ha with h | h
  ·exact zbe n a h
  ·rw [List.eq_of_mem_replicate h]; decide
 have hv : val (tw n ++ List.replicate (4 - (tw n).length) 0) = n := by rw [zcg, zfY, zaV, Nat.mul_zero, Nat.add_zero]
 have := zi6 _ hw
 rw [hv, hlen] at this
 exact this.symm
theorem zfm (l : List Nat) (i : Nat) (hi : i < l.length) (h4 : l.length ≤ 4) : (l.take i ++ List.replicate (4 - i) 0).set i (l.getD i 0) = l.take (i + 1) ++ List.replicate (4 - (i + 1)) 0 := by
 apply List.ext_getElem?
 intro k
 have e : 4 - i = (4 - (i + 1)) + 1 := by omega
 rcases Nat.lt_trichotomy k i with hk | hk | hk
 ·simp [List.getElem?_append, List.getElem?_take, List.getElem?_set, hk, Nat.min_eq_left (Nat.le_of_lt hi), show ¬ i = k by omega, show k < min (i + 1) l.length by omega, show k < i + 1 by omega]
 ·subst hk
  simp [List.getElem?_append, List.getElem?_take, List.getElem?_set, hi, Nat.min_eq_left (Nat.le_of_lt hi), show k < min (k + 1) l.length by omega, show k < k + (4 - k) by omega]
 ·have : i ≠ k := by omega
  simp [List.getElem?_append, List.getElem?_take, List.getElem?_set, Nat.min_eq_left (Nat.le_of_lt hi), this, show ¬ k < i by omega, show ¬ k < min (i + 1) l.length by omega, Nat.min_eq_left (show i + 1 ≤ l.length from hi)]
  have h0 : ¬ 0 = k - i := by omega
  by_cases h : k < 4
  ·simp [List.getElem?_replicate, show k - i < 4 - i by omega, show ¬ k < i + 1 by omega, h0, show k - (i + 1) < 3 - i by omega]
  ·simp [List.getElem?_replicate, show ¬ k - i < 4 - i by omega, show ¬ k < i + 1 by omega, h0, show ¬ k - (i + 1) < 3 - i by omega]
def wiS (m : List Nat) (bb : Bool) (i : Nat) (l : List Nat) : St := ⟨[(1, .r (.sl 1 (wns m))), (4, .pt 0 0), (6, .pt 1 0), (7, .r (.v (.int .i64 (i : Int))))], [(0, some (.var 26 [.r (.v (.bool false)), .r (.v (.int .u64 0)), .r (.v (.int .u64 0)), .r (.v (.int .u64 0)), .r (.v (.int .u64 0))])), (1, some (.var 26 (.r (.v (.bool bb)) :: wv l)))], 2⟩
theorem zn1 (b : Bool) (n : Nat) (hn : n < B64 ^ 4) : zaq Tryz.prog 26 [.r (.v (.bool b)), .r (.sl 1 (wns (tw n)))] [] (.tu [wd (b && decide (n ≠ 0)) n, .r (.v (.bool true))]) [] := by
 refine zaw Tryz.func26 rfl (Nat.le_of_ble_eq_true rfl) rfl rfl ?_
 have hl := zbk 4 n hn
 have hll := zaY (tw n)
 have cT := znW (tw n) (by omega)
 rw [zdb _ (zbe n), zaV] at cT
 have hb0 : (b && decide (n ≠ 0)) = (b && decide (0 < (tw n).length)) := by
  by_cases h : n = 0
  ·subst h; rw [zb7]; rfl
  ·rw [zeq h]; simp [h]
 have hws := zoe n hn
 rw [hb0]
 generalize tw n = m at *
 cases b with
 | false =>
  (repeat' (first | refine zae ?_ | (refine is_f 50 ?_; refine zaf (cT) ?_) | (refine zab (fun hb => ?_) (fun hb => ?_) <;> (try (exfalso; omega))) | fail))
  all_goals (first | (exfalso; omega) | skip)
  rw [Bool.false_and]
  refine zap (fun i : Nat => wiS m false i (m.take i ++ List.replicate (4 - i) 0)) (fun i => i ≤ m.length) (fun i => m.length - i) 0 (Nat.zero_le _) (by (refine Le.mk [(0,0),(1,1)] [] zai zal zak zah)) fun i hx => ?_
  rcases Nat.lt_or_ge i m.length with hi | hi
  ·have hL : (m.take i ++ List.replicate (4 - i) 0).length = 4 := by rw [List.length_append, List.length_replicate, List.length_take]; omega
   have hst := zfm m i hi hl
   have gm := zbj (l := m) hi
   change awp _ _ _ _ _ (wiS m false i (m.take i ++ List.replicate (4 - i) 0))
   generalize m.take i ++ List.replicate (4 - i) 0 = L at *
   have hlen : Nat.ble (0 + 1 + i * 1 + 1) (AV.r (.v (.bool false)) :: wv L).length = true := by rw [Nat.ble_eq, List.length_cons, zeX]; omega
   have hE : setA (AV.r (.v (.bool false)) :: wv L) (0 + 1 + i * 1) [.r (.v (.int .u64 (m.getD i 0 : Nat)))] = AV.r (.v (.bool false)) :: wv (L.set i (m.getD i 0)) := by
    rw [← zeY L i _ (by omega), show 0 + 1 + i * 1 = i + 1 by omega]; rfl
   have hi4 : i < 4 := by omega
   have hid : ∀ T, (Blk.var T (AV.r (.v (.bool false)) :: wv (L.set i (m.getD i 0)))).ids = [] := fun T => by rw [Blk.ids, AV.idss, zbG]; rfl
   have hnum : za7 ⟨0, zcq []⟩ (wiS m false (i + 1) (L.set i (m.getD i 0))) (rho []) [] = true := by
    unfold za7 wiS; simp only [List.all_cons, List.all_nil, hid]; rfl
   (repeat' (first | refine zae ?_ | (refine zab (fun hb => ?_) (fun hb => ?_) <;> (try (exfalso; omega))) | fail))
   all_goals (first | (exfalso; omega) | exact ⟨i + 1, hi, by show Le _ _ (wiS m false (i + 1) (m.take (i + 1) ++ List.replicate (4 - (i + 1)) 0)); rw [← hst]; simp only [zaM]; rw [hE]; (refine Le.mk [] [] zai zal zak zah), by show m.length - (i + 1) < m.length - i; omega⟩)
  ·have hie : i = m.length := by have : i ≤ m.length := hx; omega
   subst hie
   have e : m.take m.length ++ List.replicate (4 - m.length) 0 = ws n 4 := by rw [List.take_length]; exact hws
   change awp _ _ _ _ _ (wiS m false m.length (m.take m.length ++ List.replicate (4 - m.length) 0))
   rw [e]
   (repeat' (first | refine zae ?_ | (refine zab (fun hb => ?_) (fun hb => ?_) <;> (try (exfalso; omega))) | fail))
   all_goals (first | (exfalso; omega) | exact zcc [] (Rt.wd false n) (.bool rfl) rfl rfl rfl rfl rfl (zan rfl) rfl)
 | true =>
  rcases Nat.eq_zero_or_pos m.length with h0 | h0
  ·have hd : (true && decide (0 < m.length)) = false := by simp [h0]
   rw [hd]
   (repeat' (first | refine zae ?_ | (refine is_f 50 ?_; refine zaf (cT) ?_) | (refine zab (fun hb => ?_) (fun hb => ?_) <;> (try (exfalso; omega))) | fail))
   all_goals (first | (exfalso; omega) | skip)
   refine zap (fun i : Nat => wiS m false i (m.take i ++ List.replicate (4 - i) 0)) (fun i => i ≤ m.length) (fun i => m.length - i) 0 (Nat.zero_le _) (by (refine Le.mk [(0,0),(1,1)] [] zai zal zak zah)) fun i hx => ?_
   rcases Nat.lt_or_ge i m.length with hi | hi
   ·have hL : (m.take i ++ List.replicate (4 - i) 0).length = 4 := by rw [List.length_append, List.length_replicate, List.length_take]; omega
    have hst := zfm m i hi hl
    have gm := zbj (l := m) hi
    change awp _ _ _ _ _ (wiS m false i (m.take i ++ List.replicate (4 - i) 0))
    generalize m.take i ++ List.replicate (4 - i) 0 = L at *
    have hlen : Nat.ble (0 + 1 + i * 1 + 1) (AV.r (.v (.bool false)) :: wv L).length = true := by rw [Nat.ble_eq, List.length_cons, zeX]; omega
    have hE : setA (AV.r (.v (.bool false)) :: wv L) (0 + 1 + i * 1) [.r (.v (.int .u64 (m.getD i 0 : Nat)))] = AV.r (.v (.bool false)) :: wv (L.set i (m.getD i 0)) := by
     rw [← zeY L i _ (by omega), show 0 + 1 + i * 1 = i + 1 by omega]; rfl
    have hi4 : i < 4 := by omega
    have hid : ∀ T, (Blk.var T (AV.r (.v (.bool false)) :: wv (L.set i (m.getD i 0)))).ids = [] := fun T => by rw [Blk.ids, AV.idss, zbG]; rfl
    have hnum : za7 ⟨0, zcq []⟩ (wiS m false (i + 1) (L.set i (m.getD i 0))) (rho []) [] = true := by
     unfold za7 wiS; simp only [List.all_cons, List.all_nil, hid]; rfl
    (repeat' (first | refine zae ?_ | (refine zab (fun hb => ?_) (fun hb => ?_) <;> (try (exfalso; omega))) | fail))
    all_goals (first | (exfalso; omega) | exact ⟨i + 1, hi, by show Le _ _ (wiS m false (i + 1) (m.take (i + 1) ++ List.replicate (4 - (i + 1)) 0)); rw [← hst]; simp only [zaM]; rw [hE]; (refine Le.mk [] [] zai zal zak zah), by show m.length - (i + 1) < m.length - i; omega⟩)
   ·have hie : i = m.length := by have : i ≤ m.length := hx; omega
    subst hie
    have e : m.take m.length ++ List.replicate (4 - m.length) 0 = ws n 4 := by rw [List.take_length]; exact hws
    change awp _ _ _ _ _ (wiS m false m.length (m.take m.length ++ List.replicate (4 - m.length) 0))
    rw [e]
    (repeat' (first | refine zae ?_ | (refine zab (fun hb => ?_) (fun hb => ?_) <;> (try (exfalso; omega))) | fail))
    all_goals (first | (exfalso; omega) | exact zcc [] (Rt.wd false n) (.bool rfl) rfl rfl rfl rfl rfl (zan rfl) rfl)
  ·have hd : (true && decide (0 < m.length)) = true := by simp [h0]
   rw [hd]
   (repeat' (first | refine zae ?_ | (refine is_f 50 ?_; refine zaf (cT) ?_) | (refine zab (fun hb => ?_) (fun hb => ?_) <;> (try (exfalso; omega))) | fail))
   all_goals (first | (exfalso; omega) | skip)
   refine zap (fun i : Nat => wiS m true i (m.take i ++ List.replicate (4 - i) 0)) (fun i => i ≤ m.length) (fun i => m.length - i) 0 (Nat.zero_le _) (by (refine Le.mk [(0,0),(1,1)] [] zai zal zak zah)) fun i hx => ?_
   rcases Nat.lt_or_ge i m.length with hi | hi
   ·have hL : (m.take i ++ List.replicate (4 - i) 0).length = 4 := by rw [List.length_append, List.length_replicate, List.length_take]; omega
    have hst := zfm m i hi hl
    have gm := zbj (l := m) hi
    change awp _ _ _ _ _ (wiS m true i (m.take i ++ List.replicate (4 - i) 0))
    generalize m.take i ++ List.replicate (4 - i) 0 = L at *
    have hlen : Nat.ble (0 + 1 + i * 1 + 1) (AV.r (.v (.bool true)) :: wv L).length = true := by rw [Nat.ble_eq, List.length_cons, zeX]; omega
    have hE : setA (AV.r (.v (.bool true)) :: wv L) (0 + 1 + i * 1) [.r (.v (.int .u64 (m.getD i 0 : Nat)))] = AV.r (.v (.bool true)) :: wv (L.set i (m.getD i 0)) := by
     rw [← zeY L i _ (by omega), show 0 + 1 + i * 1 = i + 1 by omega]; rfl
    have hi4 : i < 4 := by omega
    have hid : ∀ T, (Blk.var T (AV.r (.v (.bool true)) :: wv (L.set i (m.getD i 0)))).ids = [] := fun T => by rw [Blk.ids, AV.idss, zbG]; rfl
    have hnum : za7 ⟨0, zcq []⟩ (wiS m true (i + 1) (L.set i (m.getD i 0))) (rho []) [] = true := by
     unfold za7 wiS; simp only [List.all_cons, List.all_nil, hid]; rfl
    (repeat' (first | refine zae ?_ | (refine zab (fun hb => ?_) (fun hb => ?_) <;> (try (exfalso; omega))) | fail))
    all_goals (first | (exfalso; omega) | exact ⟨i + 1, hi, by show Le _ _ (wiS m true (i + 1) (m.take (i + 1) ++ List.replicate (4 - (i + 1)) 0)); rw [← hst]; simp only [zaM]; rw [hE]; (refine Le.mk [] [] zai zal zak zah), by show m.length - (i + 1) < m.length - i; omega⟩)
   ·have hie : i = m.length := by have : i ≤ m.length := hx; omega
    subst hie
    have e : m.take m.length ++ List.replicate (4 - m.length) 0 = ws n 4 := by rw [List.take_length]; exact hws
    change awp _ _ _ _ _ (wiS m true m.length (m.take m.length ++ List.replicate (4 - m.length) 0))
    rw [e]
    (repeat' (first | refine zae ?_ | (refine zab (fun hb => ?_) (fun hb => ?_) <;> (try (exfalso; omega))) | fail))
    all_goals (first | (exfalso; omega) | exact zcc [] (Rt.wd true n) (.bool rfl) rfl rfl rfl rfl rfl (zan rfl) rfl)
end Go.Proofs.YtpnbgalbdohfgaaGreatDoor
