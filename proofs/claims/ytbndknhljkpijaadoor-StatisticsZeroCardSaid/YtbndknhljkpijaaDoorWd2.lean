/- The library's words: the product of two, the sum of two with a carry. Conditions: ranges. --ext6 -/
import Derived.Test.YtbndknhljkpijaaDoorGB
import Derived.Test.YtbndknhljkpijaaDoorTy
import Derived.Test.YtbndknhljkpijaaDoorWd1
import Derived.Lib.Mul64
import Derived.Laws.Bits64b
import Derived.Laws.Externs
namespace Go.Proofs.YtbndknhljkpijaaDoor
open Go.RowKit Go.Ab Go.Wd
set_option maxRecDepth 100000
set_option linter.unusedVariables false
set_option linter.unusedSimpArgs false

theorem u64_mask (a : Nat) (ha : a < 18446744073709551616) : bits .and .u64 (a : Int) 4294967295 = ((a % 4294967296 : Nat) : Int) := by
  have h := bits_and_u64_nat a 4294967295 ha (by omega)
  have e : a &&& 4294967295 = a % 4294967296 := Nat.and_two_pow_sub_one_eq_mod a 32
  rw [e] at h
  exact h
theorem u64_half (a : Nat) : (a : Int).fdiv (2 ^ (min (32 : Int).toNat (IntKind.bits .u64))) = ((a / 4294967296 : Nat) : Int) := by
  rw [show min (32 : Int).toNat (IntKind.bits .u64) = 32 from rfl, Int.fdiv_eq_ediv_of_nonneg _ (by omega)]
  omega
theorem u64_mulN (a b : Nat) (h : a * b < 18446744073709551616) : IntKind.u64.wrap ((a : Int) * (b : Int)) = ((a * b : Nat) : Int) := by
  rw [← Int.natCast_mul, IntKind.wrap_u64]; omega
theorem u64_addN (a b : Nat) (h : a + b < 18446744073709551616) : IntKind.u64.wrap ((a : Int) + (b : Int)) = ((a + b : Nat) : Int) := by
  rw [IntKind.wrap_u64]; omega
theorem u64_mulM (a b : Nat) : IntKind.u64.wrap ((a : Int) * (b : Int)) = ((a * b % 18446744073709551616 : Nat) : Int) := by
  rw [← Int.natCast_mul, IntKind.wrap_u64]; omega
theorem mul64_m (x y : Nat) (hx : x < B64) (hy : y < B64) : Meets Tryd.prog 42 [.r (.v (.int .u64 (x : Int))), .r (.v (.int .u64 (y : Int)))] [] (.tu [.r (.v (.int .u64 ((x * y / B64 : Nat) : Int))), .r (.v (.int .u64 ((x * y % B64 : Nat) : Int)))]) [] := by
  refine fn_of Tryd.func42 rfl (Nat.le_of_ble_eq_true rfl) rfl rfl ?_
  obtain ⟨bd, bt, bw, hhi⟩ := Lib.mul64_hi x y hx hy
  have ba := Lib.half_mul_le (a := x / 4294967296) (b := y / 4294967296) (by unfold B64 at *; omega) (by unfold B64 at *; omega)
  have bb := Lib.half_mul_le (a := x / 4294967296) (b := y % 4294967296) (by unfold B64 at *; omega) (by omega)
  have bc := Lib.half_mul_le (a := x % 4294967296) (b := y / 4294967296) (by omega) (by unfold B64 at *; omega)
  have m1 := u64_mask x hx
  have m2 := u64_mask y hy
  have s1 := u64_half x
  have s2 := u64_half y
  have p4 := u64_mulM x y
  generalize hx0 : x % 4294967296 = x0 at *
  generalize hx1 : x / 4294967296 = x1 at *
  generalize hy0 : y % 4294967296 = y0 at *
  generalize hy1 : y / 4294967296 = y1 at *
  have p1 := u64_mulN x0 y0 (by omega)
  have p2 := u64_mulN x1 y0 (by omega)
  have p3 := u64_mulN x0 y1 (by omega)
  have p5 := u64_mulN x1 y1 (by omega)
  have s3 := u64_half (x0 * y0)
  have a1 := u64_addN (x1 * y0) (x0 * y0 / 4294967296) bt
  generalize x1 * y0 + x0 * y0 / 4294967296 = tt at *
  have m3 := u64_mask tt bt
  have s4 := u64_half tt
  have a2 := u64_addN (tt % 4294967296) (x0 * y1) bw
  generalize tt % 4294967296 + x0 * y1 = w1 at *
  have s5 := u64_half w1
  have a3 := u64_addN (x1 * y1) (tt / 4294967296) (by omega)
  have a4 := u64_addN (x1 * y1 + tt / 4294967296) (w1 / 4294967296) (by omega)
  rw [hhi] at a4
  generalize x1 * y1 + tt / 4294967296 = v at *
  generalize x0 * y1 = q1 at *
  generalize x1 * y1 = q2 at *
  generalize x1 * y0 = q3 at *
  generalize x0 * y0 = q4 at *
  (repeat' (first | refine r_4eabd4 ?_ | (refine r_48b933 (fun hb => ?_) (fun hb => ?_) <;> (try (exfalso; omega))) | (refine awp_cond rfl (fun hb => ?_) (fun hb => ?_) <;> (try simp only [Bool.not_eq_true', Bool.not_eq_false', decide_eq_true_eq, decide_eq_false_iff_not] at hb) <;> (try (exfalso; omega)))))
  all_goals exact ret2 [] (.int rfl) (.int rfl) rfl rfl rfl rfl
section
variable {env : Nat → AV} {H : Nat → Option Blk} {d : Option Tmp} {ty : TypeId} {pos : String} {af : Array Edge} {g : Option (Nat × Bool)} {x y z : Operand} {t1 t2 t3 : TypeId}
theorem p_add64 {a b c : Nat} (hx : evA env x = .r (.v (.int .u64 (a : Int)))) (hy : evA env y = .r (.v (.int .u64 (b : Int)))) (hz : evA env z = .r (.v (.int .u64 (c : Int)))) (hc : c ≤ 1) :
    ReadOk Tryd.prog ⟨d, .call { callee := .value (.func 43), args := #[x, y, z], argTypes := #[t1, t2, t3] }, ty, pos, af, g⟩ env H [] (.tu [.r (.v (.int .u64 (((a + b + c) % B64 : Nat) : Int))), .r (.v (.int .u64 (((a + b + c) / B64 : Nat) : Int)))]) := by
  refine ⟨fun i b h => by simp at h, fun i hi => by simp [AV.ids, AV.idss] at hi, fun ac w Z M hr _ => ?_⟩
  have h1 := ev_v hx (hr x (by simp [Op.operands, Call.operands]))
  have h2 := ev_v hy (hr y (by simp [Op.operands, Call.operands]))
  have h3 := ev_v hz (hr z (by simp [Op.operands, Call.operands]))
  have hrun : (callFunc 43 #[.int .u64 (a : Int), .int .u64 (b : Int), .int .u64 (c : Int)]).run Tryd.prog w = .ok (.value (.tuple #[.int .u64 (((a + b + c) % B64 : Nat) : Int), .int .u64 (((a + b + c) / B64 : Nat) : Int)])) w := by
    rw [run_callFunc_extern Tryd.func43 (by kernel_rfl) (by kernel_rfl) (by kernel_rfl) (e := add64Entry) (by kernel_rfl), run_add64 a b c (by omega) (by omega) (by omega) (by omega)]
    simp only [Result.andThen]
    congr 5 <;> (unfold B64; omega)
  refine ⟨_, ?_, by rw [AV.rep]; exact ⟨_, rfl, by simp only [AV.reps, AV.rep, RV.rep]; exact ⟨_, _, rfl, rfl, _, _, rfl, rfl, rfl⟩⟩⟩
  have h4 : ac.eval (.func 43) = .func (.func 43) #[] #[] := rfl
  simp only [execOp, resolve, h4, Deferred.ofValue, Sem.run_bind, Sem.run_pure, Result.andThen_ok, invoke, List.map_toArray, List.map_cons, List.map_nil, h1, h2, h3]
  simpa using hrun
/-- The same without a carry that comes in. -/
theorem p_add64z {a b : Nat} (hx : evA env x = .r (.v (.int .u64 (a : Int)))) (hy : evA env y = .r (.v (.int .u64 (b : Int)))) (hz : evA env z = .r (.v (.int .u64 0))) :
    ReadOk Tryd.prog ⟨d, .call { callee := .value (.func 43), args := #[x, y, z], argTypes := #[t1, t2, t3] }, ty, pos, af, g⟩ env H [] (.tu [.r (.v (.int .u64 (((a + b) % B64 : Nat) : Int))), .r (.v (.int .u64 (((a + b) / B64 : Nat) : Int)))]) :=
  p_add64 (c := 0) hx hy hz (by omega)
end
end Go.Proofs.YtbndknhljkpijaaDoor
