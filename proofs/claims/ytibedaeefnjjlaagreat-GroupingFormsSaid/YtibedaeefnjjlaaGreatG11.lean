/- Texts of the second layer in one: Wg2 Wg3 Wg4. -/
import Derived.Test.YtibedaeefnjjlaaGreatG10
import Derived.Laws.BitsAllLaws
set_option maxHeartbeats 8000000
set_option maxRecDepth 100000
set_option linter.unusedVariables false
set_option linter.unusedSimpArgs false
namespace Go.Proofs.YtibedaeefnjjlaaGreat
open Go.RowKit Go.Ab Go.Wd
section
variable {env : Nat → AV} {H : Nat → Option Blk} {d : Option Tmp} {ty : TypeId} {pos : String} {af : Array Edge} {g : Option (Nat × Bool)} {x y z : Operand} {t1 t2 t3 : TypeId}
theorem zgk {a b c : Nat} (hx : evA env x = .r (.v (.int .u64 (a : Int)))) (hy : evA env y = .r (.v (.int .u64 (b : Int)))) (hz : evA env z = .r (.v (.int .u64 (c : Int)))) (hc : c ≤ 1) :
  zax Tryz.prog ⟨d, .call { callee := .value (.func 122), args := #[x, y, z], argTypes := #[t1, t2, t3] }, ty, pos, af, g⟩ env H [] (.tu [.r (.v (.int .u64 (((a + B64 - b - c) % B64 : Nat) : Int))), .r (.v (.int .u64 (((if a < b + c then 1 else 0) : Nat) : Int)))]) := by
 refine ⟨fun i b h => by simp at h, fun i hi => by simp [AV.ids, AV.idss] at hi, fun ac w Z M hr _ => ?_⟩
 have h1 := ev_v hx (hr x (by simp [Op.operands, Call.operands]))
 have h2 := ev_v hy (hr y (by simp [Op.operands, Call.operands]))
 have h3 := ev_v hz (hr z (by simp [Op.operands, Call.operands]))
 have hrun : (callFunc 122 #[.int .u64 (a : Int), .int .u64 (b : Int), .int .u64 (c : Int)]).run Tryz.prog w = .ok (.value (.tuple #[.int .u64 (((a + B64 - b - c) % B64 : Nat) : Int), .int .u64 (((if a < b + c then 1 else 0) : Nat) : Int)])) w := by
  rw [run_callFunc_extern Tryz.func122 (by kernel_rfl) (by kernel_rfl) (by kernel_rfl) (e := sub64Entry) (by kernel_rfl), run_sub64 a b c hc]
  rfl
 refine ⟨_, ?_, by rw [AV.rep]; exact ⟨_, rfl, by simp only [AV.reps, AV.rep, RV.rep]; exact ⟨_, _, rfl, rfl, _, _, rfl, rfl, rfl⟩⟩⟩
 have h4 : ac.eval (.func 122) = .func (.func 122) #[] #[] := rfl
 simp only [execOp, resolve, h4, Deferred.ofValue, Sem.run_bind, Sem.run_pure, Result.andThen_ok, invoke, List.map_toArray, List.map_cons, List.map_nil, h1, h2, h3]
 simpa using hrun
end
def sbG (a b : List Nat) : Nat → Nat → Nat → List Nat → Nat × List Nat
 | 0, _, c, l => (c, l)
 | j + 1, i, c, l => sbG a b j (i + 1) (if a.getD i 0 < b.getD i 0 + c then 1 else 0) (l.set i ((a.getD i 0 + B64 - b.getD i 0 - c) % B64))
theorem zo5 (a b : List Nat) (ha : Wds a) (hb : Wds b) (hl : a.length = b.length) : ∀ (j i c : Nat) (l : List Nat), j + i = a.length → l.length = a.length → Wds l → c ≤ 1 → (∀ p, i ≤ p → l.getD p 0 = 0) → val l + val (b.take i) = val (a.take i) + B64 ^ i * c →
  Wds (sbG a b j i c l).2 ∧ (sbG a b j i c l).2.length = a.length ∧ (sbG a b j i c l).1 ≤ 1 ∧ val (sbG a b j i c l).2 + val b = val a + B64 ^ a.length * (sbG a b j i c l).1
 | 0, i, c, l, hj, hll, hw, hc, hz, hv => by
  have : i = a.length := by omega
  subst this
  rw [List.take_length, hl, List.take_length, ← hl] at hv
  exact ⟨hw, hll, hc, hv⟩
 | j + 1, i, c, l, hj, hll, hw, hc, hz, hv => by
  have h1 := ha.get i
  have h2 := hb.get i
  have hvs := zdo l i ((a.getD i 0 + B64 - b.getD i 0 - c) % B64) (by omega)
  rw [hz i (Nat.le_refl _), Nat.mul_zero, Nat.add_zero] at hvs
  have e1 := zcy a i (by omega)
  have e2 := zcy b i (by omega)
  rw [sbG]
  refine zo5 a b ha hb hl j (i + 1) _ _ (by omega) (by rw [List.length_set]; exact hll) (hw.set i (by unfold B64; omega)) (by split <;> omega) (fun p hp => ?_) ?_
  ·have : i ≠ p := by omega
   have e := hz p (by omega)
   simpa [List.getD_eq_getElem?_getD, List.getElem?_set, this] using e
  ·rw [hvs, e1, e2, Nat.pow_succ]
   have hm : (a.getD i 0 + B64 - b.getD i 0 - c) % B64 + b.getD i 0 + c = a.getD i 0 + B64 * (if a.getD i 0 < b.getD i 0 + c then 1 else 0) := by
    split <;> (unfold B64 at *; omega)
   generalize (a.getD i 0 + B64 - b.getD i 0 - c) % B64 = r at *
   generalize (if a.getD i 0 < b.getD i 0 + c then 1 else 0) = q at *
   generalize a.getD i 0 = x at *
   generalize b.getD i 0 = y at *
   generalize B64 ^ i = M at *
   have e3 : M * (r + y + c) = M * (x + B64 * q) := by rw [hm]
   rw [Nat.mul_add, Nat.mul_add, Nat.mul_add, ← Nat.mul_assoc] at e3
   omega
def sbS (a b : List Nat) (i c : Nat) (l : List Nat) : St := ⟨[(2, .pt 0 0), (3, .pt 1 0), (4, .pt 2 0), (5, .r (.v (.int .u64 (c : Int)))), (7, .r (.v (.int .i64 (i : Int))))], [(0, some (.var 34 (wv a))), (1, some (.var 34 (wv b))), (2, some (.var 34 (wv l)))], 3⟩
theorem zi1 (a b : List Nat) (i c : Nat) (l : List Nat) : zbv ⟨0, zcp []⟩ (sbS a b i c l) (rho []) [] = true := by
 have hid : ∀ T l, (Blk.var T (wv l)).ids = [] := fun T l => by rw [Blk.ids, zct]
 unfold zbv sbS; simp only [List.all_cons, List.all_nil, hid]; rfl
theorem zlp (m n : Nat) (hm : m < B64 ^ 4) (hn : n < B64 ^ 4) (hmn : n ≤ m) : zan Tryz.prog 158 [w4 m, w4 n] [] (w4 (m - n)) [] := by
 have hla := zbV 4 m
 have hlb := zbV 4 n
 have hwa := zdp 4 m
 have hwb := zdp 4 n
 have hva := zcX 4 m hm
 have hvb := zcX 4 n hn
 refine zap Tryz.func158 rfl (Nat.le_of_ble_eq_true rfl) rfl rfl ?_
 (repeat' (first | refine zad ?_ | (refine zac (fun hb => ?_) (fun hb => ?_) <;> (try (exfalso; omega))) | fail))
 obtain ⟨g1, g2, g3, g4⟩ := zo5 (ws m 4) (ws n 4) hwa hwb (by rw [hla, hlb]) 4 0 0 [0, 0, 0, 0] (by rw [hla]) (by rw [hla]; rfl) (fun a ha => by simp at ha; subst ha; decide) (by omega) (fun p _ => by rcases p with _ | _ | _ | _ | p <;> rfl) (by simp [val])
 have hfin : sbG (ws m 4) (ws n 4) 4 0 0 [0, 0, 0, 0] = (0, ws (m - n) 4) := by
  generalize sbG (ws m 4) (ws n 4) 4 0 0 [0, 0, 0, 0] = R at *
  obtain ⟨c, l⟩ := R
  dsimp only at *
  rw [hva, hvb, hla] at g4
  have e := four l (by rw [g2, hla]) g1
  have hvl : val l < B64 ^ 4 := by have := zfj l g1; rw [g2, hla] at this; exact this
  have hc : c = 0 := by
   rcases Nat.eq_zero_or_pos c with h | h
   ·exact h
   ·have : B64 ^ 4 * 1 ≤ B64 ^ 4 * c := Nat.mul_le_mul (Nat.le_refl _) h
    omega
  subst hc
  rw [Nat.mul_zero, Nat.add_zero] at g4
  have g5 : val l = m - n := by omega
  rw [g5] at e
  rw [e]
 refine zas (fun x : Nat × Nat × List Nat => sbS (ws m 4) (ws n 4) x.1 x.2.1 x.2.2) (fun x => x.1 ≤ 4 ∧ x.2.2.length = 4 ∧ x.2.1 ≤ 1 ∧ sbG (ws m 4) (ws n 4) (4 - x.1) x.1 x.2.1 x.2.2 = (0, ws (m - n) 4)) (fun x => 4 - x.1) (0, 0, [0, 0, 0, 0]) ⟨by omega, rfl, by show 0 ≤ 1; omega, hfin⟩ (by (refine Le.mk [] [] zaj zao zaq zal)) fun x hx => ?_
 obtain ⟨i, c, l⟩ := x
 obtain ⟨hx1, hx2, hx3, hx4⟩ := hx
 dsimp only at hx1 hx2 hx3 hx4
 change awp _ _ _ _ _ (sbS (ws m 4) (ws n 4) i c l)
 rcases Nat.lt_or_ge i 4 with hi | hi
 ·obtain ⟨j, hj⟩ : ∃ j, 4 - i = j + 1 := ⟨4 - i - 1, by omega⟩
  have hj2 : j = 4 - (i + 1) := by omega
  rw [hj, sbG] at hx4
  subst hj2
  have ga : (wv (ws m 4))[0 + i * 1]? = some (.r (.v (.int .u64 ((ws m 4).getD i 0 : Nat)))) := by rw [show 0 + i * 1 = i by omega]; exact zf6 (by omega)
  have gb : (wv (ws n 4))[0 + i * 1]? = some (.r (.v (.int .u64 ((ws n 4).getD i 0 : Nat)))) := by rw [show 0 + i * 1 = i by omega]; exact zf6 (by omega)
  have hxa := hwa.get i
  have hxb := hwb.get i
  generalize ws m 4 = a at *
  generalize ws n 4 = b at *
  have hc1 : (if a.getD i 0 < b.getD i 0 + c then 1 else 0) ≤ 1 := by split <;> omega
  generalize a.getD i 0 = x at *
  generalize b.getD i 0 = y at *
  have key : ∀ i0, i = i0 → IntKind.i64.wrap ((i0 : Int) + 1) = ((i0 + 1 : Nat) : Int) := fun i0 h => zaT i0 (by omega)
  obtain ⟨l0, l1, l2, l3, rfl⟩ : ∃ l0 l1 l2 l3, l = [l0, l1, l2, l3] := by
   match l, hx2 with
   | [l0, l1, l2, l3], _ => exact ⟨l0, l1, l2, l3, rfl⟩
  have hcase : i = 0 ∨ i = 1 ∨ i = 2 ∨ i = 3 := by omega
  rcases hcase with rfl | rfl | rfl | rfl
  ·have hnum := zi1 a b (0 + 1) ((if x < y + c then 1 else 0)) ([l0, l1, l2, l3].set 0 ((x + B64 - y - c) % B64))
   (repeat' (first | refine zad ?_ | ((refine is_f 122 ?_; refine zag rfl zab (zgk rfl rfl rfl hx3) ?_); try dsimp only [AV.unfr, AV.unfrs, frsL, zbg, rdOf, @List.length_cons Blk, @List.length_nil Blk, @List.nil_append (Nat × Option Blk), @List.cons_append (Nat × Option Blk), @List.nil_append Blk, @List.cons_append Blk, Nat.add_zero, Nat.zero_add, Nat.reduceAdd]) | (refine zac (fun hb => ?_) (fun hb => ?_) <;> (try (exfalso; omega))) | fail))
   all_goals (first | (exfalso; omega) | exact ⟨(0 + 1, (if x < y + c then 1 else 0), [l0, l1, l2, l3].set 0 ((x + B64 - y - c) % B64)), ⟨by show 0 + 1 ≤ 4; omega, rfl, hc1, hx4⟩, by show Le _ _ (sbS a b (0 + 1) ((if x < y + c then 1 else 0)) ([l0, l1, l2, l3].set 0 ((x + B64 - y - c) % B64))); (refine Le.mk [] [] zaj zao zaq zal), by show 4 - (0 + 1) < 4 - 0; omega⟩)
  ·have hnum := zi1 a b (1 + 1) ((if x < y + c then 1 else 0)) ([l0, l1, l2, l3].set 1 ((x + B64 - y - c) % B64))
   (repeat' (first | refine zad ?_ | ((refine is_f 122 ?_; refine zag rfl zab (zgk rfl rfl rfl hx3) ?_); try dsimp only [AV.unfr, AV.unfrs, frsL, zbg, rdOf, @List.length_cons Blk, @List.length_nil Blk, @List.nil_append (Nat × Option Blk), @List.cons_append (Nat × Option Blk), @List.nil_append Blk, @List.cons_append Blk, Nat.add_zero, Nat.zero_add, Nat.reduceAdd]) | (refine zac (fun hb => ?_) (fun hb => ?_) <;> (try (exfalso; omega))) | fail))
   all_goals (first | (exfalso; omega) | exact ⟨(1 + 1, (if x < y + c then 1 else 0), [l0, l1, l2, l3].set 1 ((x + B64 - y - c) % B64)), ⟨by show 1 + 1 ≤ 4; omega, rfl, hc1, hx4⟩, by show Le _ _ (sbS a b (1 + 1) ((if x < y + c then 1 else 0)) ([l0, l1, l2, l3].set 1 ((x + B64 - y - c) % B64))); (refine Le.mk [] [] zaj zao zaq zal), by show 4 - (1 + 1) < 4 - 1; omega⟩)
  ·have hnum := zi1 a b (2 + 1) ((if x < y + c then 1 else 0)) ([l0, l1, l2, l3].set 2 ((x + B64 - y - c) % B64))
   (repeat' (first | refine zad ?_ | ((refine is_f 122 ?_; refine zag rfl zab (zgk rfl rfl rfl hx3) ?_); try dsimp only [AV.unfr, AV.unfrs, frsL, zbg, rdOf, @List.length_cons Blk, @List.length_nil Blk, @List.nil_append (Nat × Option Blk), @List.cons_append (Nat × Option Blk), @List.nil_append Blk, @List.cons_append Blk, Nat.add_zero, Nat.zero_add, Nat.reduceAdd]) | (refine zac (fun hb => ?_) (fun hb => ?_) <;> (try (exfalso; omega))) | fail))
   all_goals (first | (exfalso; omega) | exact ⟨(2 + 1, (if x < y + c then 1 else 0), [l0, l1, l2, l3].set 2 ((x + B64 - y - c) % B64)), ⟨by show 2 + 1 ≤ 4; omega, rfl, hc1, hx4⟩, by show Le _ _ (sbS a b (2 + 1) ((if x < y + c then 1 else 0)) ([l0, l1, l2, l3].set 2 ((x + B64 - y - c) % B64))); (refine Le.mk [] [] zaj zao zaq zal), by show 4 - (2 + 1) < 4 - 2; omega⟩)
  ·have hnum := zi1 a b (3 + 1) ((if x < y + c then 1 else 0)) ([l0, l1, l2, l3].set 3 ((x + B64 - y - c) % B64))
   (repeat' (first | refine zad ?_ | ((refine is_f 122 ?_; refine zag rfl zab (zgk rfl rfl rfl hx3) ?_); try dsimp only [AV.unfr, AV.unfrs, frsL, zbg, rdOf, @List.length_cons Blk, @List.length_nil Blk, @List.nil_append (Nat × Option Blk), @List.cons_append (Nat × Option Blk), @List.nil_append Blk, @List.cons_append Blk, Nat.add_zero, Nat.zero_add, Nat.reduceAdd]) | (refine zac (fun hb => ?_) (fun hb => ?_) <;> (try (exfalso; omega))) | fail))
   all_goals (first | (exfalso; omega) | exact ⟨(3 + 1, (if x < y + c then 1 else 0), [l0, l1, l2, l3].set 3 ((x + B64 - y - c) % B64)), ⟨by show 3 + 1 ≤ 4; omega, rfl, hc1, hx4⟩, by show Le _ _ (sbS a b (3 + 1) ((if x < y + c then 1 else 0)) ([l0, l1, l2, l3].set 3 ((x + B64 - y - c) % B64))); (refine Le.mk [] [] zaj zao zaq zal), by show 4 - (3 + 1) < 4 - 3; omega⟩)
 ·have hie : 4 - i = 0 := by omega
  rw [hie, sbG] at hx4
  injection hx4 with h1 h2
  subst h1 h2
  (repeat' (first | refine zad ?_ | (refine zac (fun hb => ?_) (fun hb => ?_) <;> (try (exfalso; omega))) | fail))
  all_goals (first | (exfalso; omega) | exact zbO [] (Rt.w4 (m - n)) rfl rfl rfl rfl (zak rfl) rfl)
def upL (m i : Nat) : List Nat := (List.range 4).map fun p => if p < i then wo m p else 0
theorem zpm (m i : Nat) : (upL m i).length = 4 := by simp [upL]
theorem zpo (m i : Nat) (h : i < 4) : (upL m i).set i (wo m i) = upL m (i + 1) := by
 apply List.ext_getElem?
 intro k
 unfold upL
 rcases Nat.lt_trichotomy k i with hk | hk | hk
 ·simp [List.getElem?_set, show ¬ i = k by omega, List.getElem?_range, show k < 4 by omega, hk, show k < i + 1 by omega]
 ·subst hk
  simp [List.getElem?_set, List.getElem?_range, h]
 ·by_cases h4 : k < 4
  ·simp [List.getElem?_set, show ¬ i = k by omega, List.getElem?_range, h4, show ¬ k < i by omega, show ¬ k < i + 1 by omega]
  ·simp [List.getElem?_set, show ¬ i = k by omega, List.getElem?_range, h4]
theorem zmr (m : Nat) : upL m 4 = ws m 4 := by rw [ws4]; rfl
theorem zpn (m w : Nat) (hw : w ≤ 4) (h : ∀ p, p < w → wo m p = 0) : upL m w = [0, 0, 0, 0] := by
 have e : ∀ p, (if p < w then wo m p else 0) = 0 := fun p => by split
                                                                · exact h p (by assumption)
                                                                · rfl
 unfold upL
 simp only [e]
 rfl
theorem zmD (k : IntKind) (z : Int) : zaM (.r (.v (.int k z))) = [.r (.v (.int k z))] := rfl
theorem ztw (l : List Nat) (i v : Nat) (h : i < l.length) : setA (wv l) (0 + i * 1) [.r (.v (.int .u64 (v : Int)))] = wv (l.set i v) := by
 rw [Nat.mul_one, Nat.zero_add]; exact zgA l _ _ h
theorem zel (l : List Nat) (i v : Nat) (h : i < l.length) : Nat.ble (0 + i * 1 + 1) (setA (wv l) (0 + i * 1) (zaM (.r (.v (.int .u64 (v : Int)))))).length = true := by
 rw [zmD, ztw l i v h, Nat.ble_eq, zgz, List.length_set, Nat.mul_one, Nat.zero_add]; exact h
def lfS (a l : List Nat) (w r i : Nat) : St := ⟨[(2, .pt 0 0), (4, .pt 1 0), (5, .r (.v (.int .i64 (w : Int)))), (6, .r (.v (.int .i64 (r : Int)))), (7, .r (.v (.int .i64 (i : Int))))], [(0, some (.var 34 (wv a))), (1, some (.var 34 (wv l)))], 2⟩
theorem zrS (a l : List Nat) (w r i : Nat) : zbv ⟨0, zcp []⟩ (lfS a l w r i) (rho []) [] = true := by
 have hid : ∀ T l, (Blk.var T (wv l)).ids = [] := fun T l => by rw [Blk.ids, zct]
 unfold zbv lfS; simp only [List.all_cons, List.all_nil, hid]; rfl
theorem zcI (a r : Nat) (hr : r < 64) : IntKind.u64.wrap ((a : Int) * 2 ^ (min (Int.toNat (r : Int)) IntKind.u64.bits)) = ((a * 2 ^ r % B64 : Nat) : Int) := by
 have e : min (Int.toNat (r : Int)) IntKind.u64.bits = r := by rw [Int.toNat_natCast]; exact Nat.min_eq_left (by show r ≤ 64; omega)
 rw [e, IntKind.wrap_u64]
 have : (a : Int) * 2 ^ r = ((a * 2 ^ r : Nat) : Int) := by simp
 rw [this]
 unfold B64
 omega
theorem zdA (a s : Nat) (hs : s ≤ 64) : Int.fdiv (a : Int) (2 ^ (min (Int.toNat (s : Int)) IntKind.u64.bits)) = ((a / 2 ^ s : Nat) : Int) := by
 have e : min (Int.toNat (s : Int)) IntKind.u64.bits = s := by rw [Int.toNat_natCast]; exact Nat.min_eq_left hs
 rw [e]
 have : (2 : Int) ^ s = ((2 ^ s : Nat) : Int) := by simp
 rw [this, Int.fdiv_eq_ediv_of_nonneg _ (Int.natCast_nonneg _)]
 simp
theorem zfh (a b k : Nat) (ha : a % 2 ^ k = 0) (hb : b < 2 ^ k) (h : a + b < B64) : bits .or .u64 (a : Int) (b : Int) = ((a + b : Nat) : Int) := by
 unfold B64 at h
 rw [u64_or_nat _ _ (by omega) (by omega), zj0 a b k ha hb]
theorem ztc (n w r : Nat) (hn : n < B64 ^ 4) (hw : w < 4) (hr : r < 64) (hm : n * 2 ^ (64 * w + r) < B64 ^ 4) : zan Tryz.prog 163 [w4 n, .r (.v (.int .i64 ((64 * w + r : Nat) : Int)))] [] (w4 (n * 2 ^ (64 * w + r))) [] := by
 have hL := fun i hi => zne n w r i hi
 have h0 := zsK n w r hr
 have hS := fun j => ztO n w r j hr
 generalize n * 2 ^ (64 * w + r) = m at *
 have hq : IntKind.i64.wrap (Int.tdiv ((64 * w + r : Nat) : Int) 64) = (w : Int) := by rw [IntKind.wrap_i64, Int.tdiv_eq_ediv_of_nonneg (by omega)]; omega
 have hrem : Int.tmod ((64 * w + r : Nat) : Int) 64 = (r : Int) := by rw [Int.tmod_eq_emod_of_nonneg (by omega)]; omega
 refine zap Tryz.func163 rfl (Nat.le_of_ble_eq_true rfl) rfl rfl ?_
 generalize 64 * w + r = k at *
 have hwa := zbV 4 n
 (repeat' (first | refine zad ?_ | (refine zac (fun hb => ?_) (fun hb => ?_) <;> (try (exfalso; omega))) | fail))
 refine zas (fun x : Nat × List Nat => lfS (ws n 4) x.2 w r (w + x.1)) (fun x => w + x.1 ≤ 4 ∧ x.2 = upL m (w + x.1)) (fun x => 4 - x.1) (0, [0, 0, 0, 0]) ⟨by show w + 0 ≤ 4; omega, (zpn m w (by omega) hL).symm⟩ (by (refine Le.mk [] [] zaj zao zaq zal)) fun x hx => ?_
 obtain ⟨j, l⟩ := x
 obtain ⟨hx1, hx2⟩ := hx
 dsimp only at hx1 hx2
 change awp _ _ _ _ _ (lfS (ws n 4) l w r (w + j))
 have hll : l.length = 4 := by rw [hx2]; exact zpm _ _
 rcases Nat.lt_or_ge (w + j) 4 with hi | hi
 ·have hset := zpo m (w + j) hi
  rw [← hx2] at hset
  have hinc : IntKind.i64.wrap (((w + j : Nat) : Int) + 1) = ((w + (j + 1) : Nat) : Int) := zaT (w + j) (by omega)
  have hsub : IntKind.i64.wrap (((w + j : Nat) : Int) - (w : Int)) = (j : Int) := by rw [IntKind.wrap_i64]; omega
  have gj : (wv (ws n 4))[0 + j * 1]? = some (.r (.v (.int .u64 (wo n j : Nat)))) := by
   rw [show 0 + j * 1 = j by omega, zf6 (by omega)]
   have : (ws n 4).getD j 0 = wo n j := by
    rw [ws4]
    have : j = 0 ∨ j = 1 ∨ j = 2 ∨ j = 3 := by omega
    rcases this with rfl | rfl | rfl | rfl <;> rfl
   rw [this]
  have c1 := zcI (wo n j) r hr
  have hlt := zdB n j
  have hik : w + j < 4 := hi
  have hlen1 : Nat.ble (0 + (w + j) * 1 + 1) (wv l).length = true := by rw [Nat.ble_eq, zgz]; omega
  rcases Nat.eq_zero_or_pos j with h00 | hjp
  ·subst h00
   rw [← h0] at c1
   have hE : setA (wv l) (0 + (w + 0) * 1) [.r (.v (.int .u64 ((wo m w : Nat) : Int)))] = wv (upL m (w + 0 + 1)) := by
    rw [← hset, show 0 + (w + 0) * 1 = w + 0 by omega]; exact zgA l _ _ (by omega)
   have hnum := zrS (ws n 4) (upL m (w + 0 + 1)) w r (w + (0 + 1))
   (repeat' (first | refine zad ?_ | (refine zac (fun hb => ?_) (fun hb => ?_) <;> (try (exfalso; omega))) | fail))
   all_goals (first | (exfalso; omega) | exact ⟨(0 + 1, upL m (w + 0 + 1)), ⟨by show w + (0 + 1) ≤ 4; omega, rfl⟩, by show Le _ _ (lfS (ws n 4) (upL m (w + 0 + 1)) w r (w + (0 + 1))); simp only [zaM]; rw [hE]; (refine Le.mk [] [] zaj zao zaq zal), by show 4 - (0 + 1) < 4 - 0; omega⟩)
  ·obtain ⟨s, hs⟩ : ∃ s, s = 64 - r := ⟨_, rfl⟩
   have hsr : IntKind.i64.wrap (64 - (r : Int)) = (s : Int) := by rw [IntKind.wrap_i64]; omega
   obtain ⟨l0, l1, l2, l3, rfl⟩ : ∃ l0 l1 l2 l3, l = [l0, l1, l2, l3] := by
    match l, hll with
    | [l0, l1, l2, l3], _ => exact ⟨l0, l1, l2, l3, rfl⟩
   have hcase : (w = 0 ∧ j = 1) ∨ (w = 0 ∧ j = 2) ∨ (w = 0 ∧ j = 3) ∨ (w = 1 ∧ j = 1) ∨ (w = 1 ∧ j = 2) ∨ (w = 2 ∧ j = 1) := by omega
   clear gj c1 hlt hlen1 hinc hsub hq hrem hx1 hx2 hL h0 hi hik hjp hw
   rw [ws4] at hwa ⊢
   rcases hcase with ⟨rfl, rfl⟩ | ⟨rfl, rfl⟩ | ⟨rfl, rfl⟩ | ⟨rfl, rfl⟩ | ⟨rfl, rfl⟩ | ⟨rfl, rfl⟩
   ·have hr0 := hS 0
    rw [← hs] at hr0
    obtain ⟨s1, s2, s3⟩ : wo m 1 = wo n 1 * 2 ^ r % B64 + wo n 0 / 2 ^ s ∧ wo n 1 * 2 ^ r % B64 % 2 ^ r = 0 ∧ wo n 0 / 2 ^ s < 2 ^ r := hr0
    have c1 := zcI (wo n 1) r hr
    have c2 := zdA (wo n 0) s (by omega)
    have hor := zfh (wo n 1 * 2 ^ r % B64) (wo n 0 / 2 ^ s) r s2 s3 (by rw [← s1]; exact zdB _ _)
    rw [← s1] at hor
    have hr1 : r = 0 → wo n 1 * 2 ^ r % B64 = wo m 1 := by
     intro h
     have : wo n 0 / 2 ^ s = 0 := by
      rw [show s = 64 by omega, ← zaQ]
      exact Nat.div_eq_of_lt (zdB n 0)
     omega
    clear s1 s2 s3 hS
    generalize wo n 1 * 2 ^ r % B64 = x1 at *
    generalize wo n 0 / 2 ^ s = x2 at *
    by_cases hr00 : r = 0
    ·have hr1 := hr1 hr00
     subst hr1
     clear hor c2
     (repeat' (first | refine zad ?_ | (refine zac (fun hb => ?_) (fun hb => ?_) <;> (try (exfalso; omega))) | fail))
     all_goals (first | (exfalso; omega) | exact ⟨(1 + 1, [l0, l1, l2, l3].set 1 (wo m 1)), ⟨by show 0 + (1 + 1) ≤ 4; omega, hset⟩, by show Le _ _ (lfS _ ([l0, l1, l2, l3].set 1 (wo m 1)) 0 r (0 + (1 + 1))); (refine Le.mk [] [] zaj zao zaq zal), by show 4 - (1 + 1) < 4 - 1; omega⟩)
    ·clear hr1
     (repeat' (first | refine zad ?_ | (refine zac (fun hb => ?_) (fun hb => ?_) <;> (try (exfalso; omega))) | fail))
     all_goals (first | (exfalso; omega) | exact ⟨(1 + 1, [l0, l1, l2, l3].set 1 (wo m 1)), ⟨by show 0 + (1 + 1) ≤ 4; omega, hset⟩, by show Le _ _ (lfS _ ([l0, l1, l2, l3].set 1 (wo m 1)) 0 r (0 + (1 + 1))); (refine Le.mk [] [] zaj zao zaq zal), by show 4 - (1 + 1) < 4 - 1; omega⟩)
   ·have hr0 := hS 1
    rw [← hs] at hr0
    obtain ⟨s1, s2, s3⟩ : wo m 2 = wo n 2 * 2 ^ r % B64 + wo n 1 / 2 ^ s ∧ wo n 2 * 2 ^ r % B64 % 2 ^ r = 0 ∧ wo n 1 / 2 ^ s < 2 ^ r := hr0
    have c1 := zcI (wo n 2) r hr
    have c2 := zdA (wo n 1) s (by omega)
    have hor := zfh (wo n 2 * 2 ^ r % B64) (wo n 1 / 2 ^ s) r s2 s3 (by rw [← s1]; exact zdB _ _)
    rw [← s1] at hor
    have hr1 : r = 0 → wo n 2 * 2 ^ r % B64 = wo m 2 := by
     intro h
     have : wo n 1 / 2 ^ s = 0 := by
      rw [show s = 64 by omega, ← zaQ]
      exact Nat.div_eq_of_lt (zdB n 1)
     omega
    clear s1 s2 s3 hS
    generalize wo n 2 * 2 ^ r % B64 = x1 at *
    generalize wo n 1 / 2 ^ s = x2 at *
    by_cases hr00 : r = 0
    ·have hr1 := hr1 hr00
     subst hr1
     clear hor c2
     (repeat' (first | refine zad ?_ | (refine zac (fun hb => ?_) (fun hb => ?_) <;> (try (exfalso; omega))) | fail))
     all_goals (first | (exfalso; omega) | exact ⟨(2 + 1, [l0, l1, l2, l3].set 2 (wo m 2)), ⟨by show 0 + (2 + 1) ≤ 4; omega, hset⟩, by show Le _ _ (lfS _ ([l0, l1, l2, l3].set 2 (wo m 2)) 0 r (0 + (2 + 1))); (refine Le.mk [] [] zaj zao zaq zal), by show 4 - (2 + 1) < 4 - 2; omega⟩)
    ·clear hr1
     (repeat' (first | refine zad ?_ | (refine zac (fun hb => ?_) (fun hb => ?_) <;> (try (exfalso; omega))) | fail))
     all_goals (first | (exfalso; omega) | exact ⟨(2 + 1, [l0, l1, l2, l3].set 2 (wo m 2)), ⟨by show 0 + (2 + 1) ≤ 4; omega, hset⟩, by show Le _ _ (lfS _ ([l0, l1, l2, l3].set 2 (wo m 2)) 0 r (0 + (2 + 1))); (refine Le.mk [] [] zaj zao zaq zal), by show 4 - (2 + 1) < 4 - 2; omega⟩)
   ·have hr0 := hS 2
    rw [← hs] at hr0
    obtain ⟨s1, s2, s3⟩ : wo m 3 = wo n 3 * 2 ^ r % B64 + wo n 2 / 2 ^ s ∧ wo n 3 * 2 ^ r % B64 % 2 ^ r = 0 ∧ wo n 2 / 2 ^ s < 2 ^ r := hr0
    have c1 := zcI (wo n 3) r hr
    have c2 := zdA (wo n 2) s (by omega)
    have hor := zfh (wo n 3 * 2 ^ r % B64) (wo n 2 / 2 ^ s) r s2 s3 (by rw [← s1]; exact zdB _ _)
    rw [← s1] at hor
    have hr1 : r = 0 → wo n 3 * 2 ^ r % B64 = wo m 3 := by
     intro h
     have : wo n 2 / 2 ^ s = 0 := by
      rw [show s = 64 by omega, ← zaQ]
      exact Nat.div_eq_of_lt (zdB n 2)
     omega
    clear s1 s2 s3 hS
    generalize wo n 3 * 2 ^ r % B64 = x1 at *
    generalize wo n 2 / 2 ^ s = x2 at *
    by_cases hr00 : r = 0
    ·have hr1 := hr1 hr00
     subst hr1
     clear hor c2
     (repeat' (first | refine zad ?_ | (refine zac (fun hb => ?_) (fun hb => ?_) <;> (try (exfalso; omega))) | fail))
     all_goals (first | (exfalso; omega) | exact ⟨(3 + 1, [l0, l1, l2, l3].set 3 (wo m 3)), ⟨by show 0 + (3 + 1) ≤ 4; omega, hset⟩, by show Le _ _ (lfS _ ([l0, l1, l2, l3].set 3 (wo m 3)) 0 r (0 + (3 + 1))); (refine Le.mk [] [] zaj zao zaq zal), by show 4 - (3 + 1) < 4 - 3; omega⟩)
    ·clear hr1
     (repeat' (first | refine zad ?_ | (refine zac (fun hb => ?_) (fun hb => ?_) <;> (try (exfalso; omega))) | fail))
     all_goals (first | (exfalso; omega) | exact ⟨(3 + 1, [l0, l1, l2, l3].set 3 (wo m 3)), ⟨by show 0 + (3 + 1) ≤ 4; omega, hset⟩, by show Le _ _ (lfS _ ([l0, l1, l2, l3].set 3 (wo m 3)) 0 r (0 + (3 + 1))); (refine Le.mk [] [] zaj zao zaq zal), by show 4 - (3 + 1) < 4 - 3; omega⟩)
   ·have hr0 := hS 0
    rw [← hs] at hr0
    obtain ⟨s1, s2, s3⟩ : wo m 2 = wo n 1 * 2 ^ r % B64 + wo n 0 / 2 ^ s ∧ wo n 1 * 2 ^ r % B64 % 2 ^ r = 0 ∧ wo n 0 / 2 ^ s < 2 ^ r := hr0
    have c1 := zcI (wo n 1) r hr
    have c2 := zdA (wo n 0) s (by omega)
    have hor := zfh (wo n 1 * 2 ^ r % B64) (wo n 0 / 2 ^ s) r s2 s3 (by rw [← s1]; exact zdB _ _)
    rw [← s1] at hor
    have hr1 : r = 0 → wo n 1 * 2 ^ r % B64 = wo m 2 := by
     intro h
     have : wo n 0 / 2 ^ s = 0 := by
      rw [show s = 64 by omega, ← zaQ]
      exact Nat.div_eq_of_lt (zdB n 0)
     omega
    clear s1 s2 s3 hS
    generalize wo n 1 * 2 ^ r % B64 = x1 at *
    generalize wo n 0 / 2 ^ s = x2 at *
    by_cases hr00 : r = 0
    ·have hr1 := hr1 hr00
     subst hr1
     clear hor c2
     (repeat' (first | refine zad ?_ | (refine zac (fun hb => ?_) (fun hb => ?_) <;> (try (exfalso; omega))) | fail))
     all_goals (first | (exfalso; omega) | exact ⟨(1 + 1, [l0, l1, l2, l3].set 2 (wo m 2)), ⟨by show 1 + (1 + 1) ≤ 4; omega, hset⟩, by show Le _ _ (lfS _ ([l0, l1, l2, l3].set 2 (wo m 2)) 1 r (1 + (1 + 1))); (refine Le.mk [] [] zaj zao zaq zal), by show 4 - (1 + 1) < 4 - 1; omega⟩)
    ·clear hr1
     (repeat' (first | refine zad ?_ | (refine zac (fun hb => ?_) (fun hb => ?_) <;> (try (exfalso; omega))) | fail))
     all_goals (first | (exfalso; omega) | exact ⟨(1 + 1, [l0, l1, l2, l3].set 2 (wo m 2)), ⟨by show 1 + (1 + 1) ≤ 4; omega, hset⟩, by show Le _ _ (lfS _ ([l0, l1, l2, l3].set 2 (wo m 2)) 1 r (1 + (1 + 1))); (refine Le.mk [] [] zaj zao zaq zal), by show 4 - (1 + 1) < 4 - 1; omega⟩)
   ·have hr0 := hS 1
    rw [← hs] at hr0
    obtain ⟨s1, s2, s3⟩ : wo m 3 = wo n 2 * 2 ^ r % B64 + wo n 1 / 2 ^ s ∧ wo n 2 * 2 ^ r % B64 % 2 ^ r = 0 ∧ wo n 1 / 2 ^ s < 2 ^ r := hr0
    have c1 := zcI (wo n 2) r hr
    have c2 := zdA (wo n 1) s (by omega)
    have hor := zfh (wo n 2 * 2 ^ r % B64) (wo n 1 / 2 ^ s) r s2 s3 (by rw [← s1]; exact zdB _ _)
    rw [← s1] at hor
    have hr1 : r = 0 → wo n 2 * 2 ^ r % B64 = wo m 3 := by
     intro h
     have : wo n 1 / 2 ^ s = 0 := by
      rw [show s = 64 by omega, ← zaQ]
      exact Nat.div_eq_of_lt (zdB n 1)
     omega
    clear s1 s2 s3 hS
    generalize wo n 2 * 2 ^ r % B64 = x1 at *
    generalize wo n 1 / 2 ^ s = x2 at *
    by_cases hr00 : r = 0
    ·have hr1 := hr1 hr00
     subst hr1
     clear hor c2
     (repeat' (first | refine zad ?_ | (refine zac (fun hb => ?_) (fun hb => ?_) <;> (try (exfalso; omega))) | fail))
     all_goals (first | (exfalso; omega) | exact ⟨(2 + 1, [l0, l1, l2, l3].set 3 (wo m 3)), ⟨by show 1 + (2 + 1) ≤ 4; omega, hset⟩, by show Le _ _ (lfS _ ([l0, l1, l2, l3].set 3 (wo m 3)) 1 r (1 + (2 + 1))); (refine Le.mk [] [] zaj zao zaq zal), by show 4 - (2 + 1) < 4 - 2; omega⟩)
    ·clear hr1
     (repeat' (first | refine zad ?_ | (refine zac (fun hb => ?_) (fun hb => ?_) <;> (try (exfalso; omega))) | fail))
     all_goals (first | (exfalso; omega) | exact ⟨(2 + 1, [l0, l1, l2, l3].set 3 (wo m 3)), ⟨by show 1 + (2 + 1) ≤ 4; omega, hset⟩, by show Le _ _ (lfS _ ([l0, l1, l2, l3].set 3 (wo m 3)) 1 r (1 + (2 + 1))); (refine Le.mk [] [] zaj zao zaq zal), by show 4 - (2 + 1) < 4 - 2; omega⟩)
   ·have hr0 := hS 0
    rw [← hs] at hr0
    obtain ⟨s1, s2, s3⟩ : wo m 3 = wo n 1 * 2 ^ r % B64 + wo n 0 / 2 ^ s ∧ wo n 1 * 2 ^ r % B64 % 2 ^ r = 0 ∧ wo n 0 / 2 ^ s < 2 ^ r := hr0
    have c1 := zcI (wo n 1) r hr
    have c2 := zdA (wo n 0) s (by omega)
    have hor := zfh (wo n 1 * 2 ^ r % B64) (wo n 0 / 2 ^ s) r s2 s3 (by rw [← s1]; exact zdB _ _)
    rw [← s1] at hor
    have hr1 : r = 0 → wo n 1 * 2 ^ r % B64 = wo m 3 := by
     intro h
     have : wo n 0 / 2 ^ s = 0 := by
      rw [show s = 64 by omega, ← zaQ]
      exact Nat.div_eq_of_lt (zdB n 0)
     omega
    clear s1 s2 s3 hS
    generalize wo n 1 * 2 ^ r % B64 = x1 at *
    generalize wo n 0 / 2 ^ s = x2 at *
    by_cases hr00 : r = 0
    ·have hr1 := hr1 hr00
     subst hr1
     clear hor c2
     (repeat' (first | refine zad ?_ | (refine zac (fun hb => ?_) (fun hb => ?_) <;> (try (exfalso; omega))) | fail))
     all_goals (first | (exfalso; omega) | exact ⟨(1 + 1, [l0, l1, l2, l3].set 3 (wo m 3)), ⟨by show 2 + (1 + 1) ≤ 4; omega, hset⟩, by show Le _ _ (lfS _ ([l0, l1, l2, l3].set 3 (wo m 3)) 2 r (2 + (1 + 1))); (refine Le.mk [] [] zaj zao zaq zal), by show 4 - (1 + 1) < 4 - 1; omega⟩)
    ·clear hr1
     (repeat' (first | refine zad ?_ | (refine zac (fun hb => ?_) (fun hb => ?_) <;> (try (exfalso; omega))) | fail))
     all_goals (first | (exfalso; omega) | exact ⟨(1 + 1, [l0, l1, l2, l3].set 3 (wo m 3)), ⟨by show 2 + (1 + 1) ≤ 4; omega, hset⟩, by show Le _ _ (lfS _ ([l0, l1, l2, l3].set 3 (wo m 3)) 2 r (2 + (1 + 1))); (refine Le.mk [] [] zaj zao zaq zal), by show 4 - (1 + 1) < 4 - 1; omega⟩)
 ·have hi4 : w + j = 4 := by omega
  rw [hi4] at hx2 ⊢
  rw [zmr] at hx2
  subst hx2
  (repeat' (first | refine zad ?_ | (refine zac (fun hb => ?_) (fun hb => ?_) <;> (try (exfalso; omega))) | fail))
  all_goals (first | (exfalso; omega) | exact zbO [] (Rt.w4 m) rfl rfl rfl rfl (zak rfl) rfl)
theorem zmA (n j : Nat) (h : j < 4) : (ws n 4).getD j 0 = wo n j := by
 rw [ws4]
 have : j = 0 ∨ j = 1 ∨ j = 2 ∨ j = 3 := by omega
 rcases this with rfl | rfl | rfl | rfl <;> rfl
theorem ztP (n j : Nat) (h : j < 4) : (wv (ws n 4))[0 + j * 1]? = some (.r (.v (.int .u64 (wo n j : Nat)))) := by
 rw [show 0 + j * 1 = j by omega, zf6 (by rw [zbV]; exact h), zmA n j h]
theorem zhk (a b k : Nat) (hb : b % 2 ^ k = 0) (ha : a < 2 ^ k) (h : a + b < B64) : bits .or .u64 (a : Int) (b : Int) = ((a + b : Nat) : Int) := by
 unfold B64 at h
 rw [u64_or_nat _ _ (by omega) (by omega), Nat.or_comm, zj0 b a k hb ha, Nat.add_comm]
theorem zfZ (a : Nat) : Int.fdiv (a : Int) (2 ^ (min (Int.toNat 1) IntKind.u64.bits)) = ((a / 2 : Nat) : Int) := by
 rw [show min (Int.toNat 1) IntKind.u64.bits = 1 from rfl, Int.fdiv_eq_ediv_of_nonneg _ (by omega)]
 omega
theorem zfY (a : Nat) : IntKind.u64.wrap ((a : Int) * 2 ^ (min (Int.toNat 63) IntKind.u64.bits)) = ((a % 2 * 9223372036854775808 : Nat) : Int) := by
 rw [show min (Int.toNat 63) IntKind.u64.bits = 63 from rfl, show (2 : Int) ^ 63 = 9223372036854775808 from rfl, IntKind.wrap_u64]
 omega
def hvS (a l : List Nat) (i : Nat) : St := ⟨[(1, .pt 0 0), (2, .pt 1 0), (4, .r (.v (.int .i64 (i : Int))))], [(0, some (.var 34 (wv a))), (1, some (.var 34 (wv l)))], 2⟩
theorem zrR (a l : List Nat) (i : Nat) : zbv ⟨0, zcp []⟩ (hvS a l i) (rho []) [] = true := by
 have hid : ∀ T l, (Blk.var T (wv l)).ids = [] := fun T l => by rw [Blk.ids, zct]
 unfold zbv hvS; simp only [List.all_cons, List.all_nil, hid]; rfl
theorem zpN (n : Nat) (hn : n < B64 ^ 4) : zan Tryz.prog 164 [w4 n] [] (w4 (n / 2)) [] := by
 refine zap Tryz.func164 rfl (Nat.le_of_ble_eq_true rfl) rfl rfl ?_
 have hH := zpx n
 have h4 : wo n 4 = 0 := zem hn
 generalize n / 2 = m at *
 have hwa := zbV 4 n
 (repeat' (first | refine zad ?_ | (refine zac (fun hb => ?_) (fun hb => ?_) <;> (try (exfalso; omega))) | fail))
 refine zas (fun x : Nat × List Nat => hvS (ws n 4) x.2 x.1) (fun x => x.1 ≤ 4 ∧ x.2 = upL m x.1) (fun x => 4 - x.1) (0, [0, 0, 0, 0]) ⟨by omega, (zpn m 0 (by omega) (fun p hp => by omega)).symm⟩ (by (refine Le.mk [] [] zaj zao zaq zal)) fun x hx => ?_
 obtain ⟨i, l⟩ := x
 obtain ⟨hx1, hx2⟩ := hx
 dsimp only at hx1 hx2
 change awp _ _ _ _ _ (hvS (ws n 4) l i)
 have hll : l.length = 4 := by rw [hx2]; exact zpm _ _
 rcases Nat.lt_or_ge i 4 with hi | hi
 ·have hset := zpo m i hi
  rw [← hx2] at hset
  have hinc : IntKind.i64.wrap ((i : Int) + 1) = ((i + 1 : Nat) : Int) := zaT i (by omega)
  have gi := ztP n i hi
  have c1 := zfZ (wo n i)
  have hE1 : setA (wv l) (0 + i * 1) [.r (.v (.int .u64 ((wo n i / 2 : Nat) : Int)))] = wv (l.set i (wo n i / 2)) := by
   rw [show 0 + i * 1 = i by omega]; exact zgA l _ _ (by omega)
  have hlen1 : Nat.ble (0 + i * 1 + 1) (wv l).length = true := by rw [Nat.ble_eq, zgz]; omega
  have hHi := hH i
  have hb := zdB n i
  by_cases h3 : i < 3
  ·obtain ⟨l0, l1, l2, l3, rfl⟩ : ∃ l0 l1 l2 l3, l = [l0, l1, l2, l3] := by
    match l, hll with
    | [l0, l1, l2, l3], _ => exact ⟨l0, l1, l2, l3, rfl⟩
   have hcase : i = 0 ∨ i = 1 ∨ i = 2 := by omega
   clear gi c1 hE1 hlen1 hb hHi hinc hx1 hx2 hi h3
   rw [ws4] at hwa ⊢
   rcases hcase with rfl | rfl | rfl
   ·have hHi : wo m 0 = wo n 0 / 2 + wo n 1 % 2 * 9223372036854775808 := hH 0
    have hb := zdB n 0
    have c1 := zfZ (wo n 0)
    have c2 := zfY (wo n 1)
    have hor := zhk (wo n 0 / 2) (wo n 1 % 2 * 9223372036854775808) 63 (by rw [show (2 : Nat) ^ 63 = 9223372036854775808 from rfl]; omega) (by rw [show (2 : Nat) ^ 63 = 9223372036854775808 from rfl]; unfold B64 at hb; omega) (by unfold B64 at *; omega)
    rw [← hHi] at hor
    clear hHi hH
    generalize wo n 0 / 2 = x1 at *
    generalize wo n 1 % 2 * 9223372036854775808 = x2 at *
    (repeat' (first | refine zad ?_ | (refine zac (fun hb => ?_) (fun hb => ?_) <;> (try (exfalso; omega))) | fail))
    all_goals (first | (exfalso; omega) | exact ⟨(0 + 1, [l0, l1, l2, l3].set 0 (wo m 0)), ⟨by show 0 + 1 ≤ 4; omega, hset⟩, by show Le _ _ (hvS _ ([l0, l1, l2, l3].set 0 (wo m 0)) (0 + 1)); (refine Le.mk [] [] zaj zao zaq zal), by show 4 - (0 + 1) < 4 - 0; omega⟩)
   ·have hHi : wo m 1 = wo n 1 / 2 + wo n 2 % 2 * 9223372036854775808 := hH 1
    have hb := zdB n 1
    have c1 := zfZ (wo n 1)
    have c2 := zfY (wo n 2)
    have hor := zhk (wo n 1 / 2) (wo n 2 % 2 * 9223372036854775808) 63 (by rw [show (2 : Nat) ^ 63 = 9223372036854775808 from rfl]; omega) (by rw [show (2 : Nat) ^ 63 = 9223372036854775808 from rfl]; unfold B64 at hb; omega) (by unfold B64 at *; omega)
    rw [← hHi] at hor
    clear hHi hH
    generalize wo n 1 / 2 = x1 at *
    generalize wo n 2 % 2 * 9223372036854775808 = x2 at *
    (repeat' (first | refine zad ?_ | (refine zac (fun hb => ?_) (fun hb => ?_) <;> (try (exfalso; omega))) | fail))
    all_goals (first | (exfalso; omega) | exact ⟨(1 + 1, [l0, l1, l2, l3].set 1 (wo m 1)), ⟨by show 1 + 1 ≤ 4; omega, hset⟩, by show Le _ _ (hvS _ ([l0, l1, l2, l3].set 1 (wo m 1)) (1 + 1)); (refine Le.mk [] [] zaj zao zaq zal), by show 4 - (1 + 1) < 4 - 1; omega⟩)
   ·have hHi : wo m 2 = wo n 2 / 2 + wo n 3 % 2 * 9223372036854775808 := hH 2
    have hb := zdB n 2
    have c1 := zfZ (wo n 2)
    have c2 := zfY (wo n 3)
    have hor := zhk (wo n 2 / 2) (wo n 3 % 2 * 9223372036854775808) 63 (by rw [show (2 : Nat) ^ 63 = 9223372036854775808 from rfl]; omega) (by rw [show (2 : Nat) ^ 63 = 9223372036854775808 from rfl]; unfold B64 at hb; omega) (by unfold B64 at *; omega)
    rw [← hHi] at hor
    clear hHi hH
    generalize wo n 2 / 2 = x1 at *
    generalize wo n 3 % 2 * 9223372036854775808 = x2 at *
    (repeat' (first | refine zad ?_ | (refine zac (fun hb => ?_) (fun hb => ?_) <;> (try (exfalso; omega))) | fail))
    all_goals (first | (exfalso; omega) | exact ⟨(2 + 1, [l0, l1, l2, l3].set 2 (wo m 2)), ⟨by show 2 + 1 ≤ 4; omega, hset⟩, by show Le _ _ (hvS _ ([l0, l1, l2, l3].set 2 (wo m 2)) (2 + 1)); (refine Le.mk [] [] zaj zao zaq zal), by show 4 - (2 + 1) < 4 - 2; omega⟩)
  ·have hi3 : i = 3 := by omega
   subst hi3
   rw [h4] at hHi
   have e : wo m 3 = wo n 3 / 2 := by omega
   rw [e] at hset
   rw [hset] at hE1
   have hnum := zrR (ws n 4) (upL m (3 + 1)) (3 + 1)
   clear hset hHi hH e
   generalize wo n 3 / 2 = x1 at *
   (repeat' (first | refine zad ?_ | (refine zac (fun hb => ?_) (fun hb => ?_) <;> (try (exfalso; omega))) | fail))
   all_goals (first | (exfalso; omega) | exact ⟨(3 + 1, upL m (3 + 1)), ⟨by show 3 + 1 ≤ 4; omega, rfl⟩, by show Le _ _ (hvS (ws n 4) (upL m (3 + 1)) (3 + 1)); simp only [zaM]; rw [hE1]; (refine Le.mk [] [] zaj zao zaq zal), by show 4 - (3 + 1) < 4 - 3; omega⟩)
 ·have hi4 : i = 4 := by omega
  subst hi4
  rw [zmr] at hx2
  subst hx2
  (repeat' (first | refine zad ?_ | (refine zac (fun hb => ?_) (fun hb => ?_) <;> (try (exfalso; omega))) | fail))
  all_goals (first | (exfalso; omega) | exact zbO [] (Rt.w4 m) rfl rfl rfl rfl (zak rfl) rfl)
end Go.Proofs.YtibedaeefnjjlaaGreat
