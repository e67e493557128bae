/- Texts of the second layer in one: Wg2. -/
import Derived.Test.YtibedaeefnjjlaaGreatG24
import Derived.Test.YtibedaeefnjjlaaGreatG25
/- The program's difference of magnitudes. Conditions: ranges. --ext6 -/
namespace Go.Proofs.YtibedaeefnjjlaaGreat
open Go.RowKit Go.Ab Go.Wd
set_option maxRecDepth 100000
set_option linter.unusedVariables false
set_option linter.unusedSimpArgs false

section
variable {env : Nat → AV} {H : Nat → Option Blk} {d : Option Tmp} {ty : TypeId} {pos : String} {af : Array Edge} {g : Option (Nat × Bool)} {x y z : Operand} {t1 t2 t3 : TypeId}
theorem p_sub64 {a b c : Nat} (hx : evA env x = .r (.v (.int .u64 (a : Int)))) (hy : evA env y = .r (.v (.int .u64 (b : Int)))) (hz : evA env z = .r (.v (.int .u64 (c : Int)))) (hc : c ≤ 1) :
    ReadOk Tryz.prog ⟨d, .call { callee := .value (.func 122), args := #[x, y, z], argTypes := #[t1, t2, t3] }, ty, pos, af, g⟩ env H [] (.tu [.r (.v (.int .u64 (((a + B64 - b - c) % B64 : Nat) : Int))), .r (.v (.int .u64 (((if a < b + c then 1 else 0) : Nat) : Int)))]) := by
  refine ⟨fun i b h => by simp at h, fun i hi => by simp [AV.ids, AV.idss] at hi, fun ac w Z M hr _ => ?_⟩
  have h1 := ev_v hx (hr x (by simp [Op.operands, Call.operands]))
  have h2 := ev_v hy (hr y (by simp [Op.operands, Call.operands]))
  have h3 := ev_v hz (hr z (by simp [Op.operands, Call.operands]))
  have hrun : (callFunc 122 #[.int .u64 (a : Int), .int .u64 (b : Int), .int .u64 (c : Int)]).run Tryz.prog w = .ok (.value (.tuple #[.int .u64 (((a + B64 - b - c) % B64 : Nat) : Int), .int .u64 (((if a < b + c then 1 else 0) : Nat) : Int)])) w := by
    rw [run_callFunc_extern Tryz.func122 (by kernel_rfl) (by kernel_rfl) (by kernel_rfl) (e := sub64Entry) (by kernel_rfl), run_sub64 a b c hc]
    rfl
  refine ⟨_, ?_, by rw [AV.rep]; exact ⟨_, rfl, by simp only [AV.reps, AV.rep, RV.rep]; exact ⟨_, _, rfl, rfl, _, _, rfl, rfl, rfl⟩⟩⟩
  have h4 : ac.eval (.func 122) = .func (.func 122) #[] #[] := rfl
  simp only [execOp, resolve, h4, Deferred.ofValue, Sem.run_bind, Sem.run_pure, Result.andThen_ok, invoke, List.map_toArray, List.map_cons, List.map_nil, h1, h2, h3]
  simpa using hrun
end
/-- The difference: j rounds to go, i done. -/
def sbG (a b : List Nat) : Nat → Nat → Nat → List Nat → Nat × List Nat
  | 0, _, c, l => (c, l)
  | j + 1, i, c, l => sbG a b j (i + 1) (if a.getD i 0 < b.getD i 0 + c then 1 else 0) (l.set i ((a.getD i 0 + B64 - b.getD i 0 - c) % B64))
theorem sbG_law (a b : List Nat) (ha : Wds a) (hb : Wds b) (hl : a.length = b.length) : ∀ (j i c : Nat) (l : List Nat), j + i = a.length → l.length = a.length → Wds l → c ≤ 1 → (∀ p, i ≤ p → l.getD p 0 = 0) → val l + val (b.take i) = val (a.take i) + B64 ^ i * c →
    Wds (sbG a b j i c l).2 ∧ (sbG a b j i c l).2.length = a.length ∧ (sbG a b j i c l).1 ≤ 1 ∧ val (sbG a b j i c l).2 + val b = val a + B64 ^ a.length * (sbG a b j i c l).1
  | 0, i, c, l, hj, hll, hw, hc, hz, hv => by
    have : i = a.length := by omega
    subst this
    rw [List.take_length, hl, List.take_length, ← hl] at hv
    exact ⟨hw, hll, hc, hv⟩
  | j + 1, i, c, l, hj, hll, hw, hc, hz, hv => by
    have h1 := ha.get i
    have h2 := hb.get i
    have hvs := val_set l i ((a.getD i 0 + B64 - b.getD i 0 - c) % B64) (by omega)
    rw [hz i (Nat.le_refl _), Nat.mul_zero, Nat.add_zero] at hvs
    have e1 := val_take_succ a i (by omega)
    have e2 := val_take_succ b i (by omega)
    rw [sbG]
    refine sbG_law a b ha hb hl j (i + 1) _ _ (by omega) (by rw [List.length_set]; exact hll) (hw.set i (by unfold B64; omega)) (by split <;> omega) (fun p hp => ?_) ?_
    · have : i ≠ p := by omega
      have e := hz p (by omega)
      simpa [List.getD_eq_getElem?_getD, List.getElem?_set, this] using e
    · rw [hvs, e1, e2, Nat.pow_succ]
      have hm : (a.getD i 0 + B64 - b.getD i 0 - c) % B64 + b.getD i 0 + c = a.getD i 0 + B64 * (if a.getD i 0 < b.getD i 0 + c then 1 else 0) := by
        split <;> (unfold B64 at *; omega)
      generalize (a.getD i 0 + B64 - b.getD i 0 - c) % B64 = r at *
      generalize (if a.getD i 0 < b.getD i 0 + c then 1 else 0) = q at *
      generalize a.getD i 0 = x at *
      generalize b.getD i 0 = y at *
      generalize B64 ^ i = M at *
      have e3 : M * (r + y + c) = M * (x + B64 * q) := by rw [hm]
      rw [Nat.mul_add, Nat.mul_add, Nat.mul_add, ← Nat.mul_assoc] at e3
      omega
def sbS (a b : List Nat) (i c : Nat) (l : List Nat) : St := ⟨[(2, .pt 0 0), (3, .pt 1 0), (4, .pt 2 0), (5, .r (.v (.int .u64 (c : Int)))), (7, .r (.v (.int .i64 (i : Int))))], [(0, some (.var 34 (wv a))), (1, some (.var 34 (wv b))), (2, some (.var 34 (wv l)))], 3⟩
theorem nums_sb (a b : List Nat) (i c : Nat) (l : List Nat) : numsOk ⟨0, moved []⟩ (sbS a b i c l) (rho []) [] = true := by
  have hid : ∀ T l, (Blk.var T (wv l)).ids = [] := fun T l => by rw [Blk.ids, idss_wv]
  unfold numsOk sbS; simp only [List.all_cons, List.all_nil, hid]; rfl
theorem sub_m (m n : Nat) (hm : m < B64 ^ 4) (hn : n < B64 ^ 4) (hmn : n ≤ m) : Meets Tryz.prog 158 [w4 m, w4 n] [] (w4 (m - n)) [] := by
  have hla := ws_len 4 m
  have hlb := ws_len 4 n
  have hwa := ws_wds 4 m
  have hwb := ws_wds 4 n
  have hva := val_ws 4 m hm
  have hvb := val_ws 4 n hn
  refine fn_of Tryz.func158 rfl (Nat.le_of_ble_eq_true rfl) rfl rfl ?_
  (repeat' (first | refine r_4eabd4 ?_ | (refine r_48b933 (fun hb => ?_) (fun hb => ?_) <;> (try (exfalso; omega))) | (refine awp_cond rfl (fun hb => ?_) (fun hb => ?_) <;> (try simp only [Bool.not_eq_true', Bool.not_eq_false', decide_eq_true_eq, decide_eq_false_iff_not] at hb) <;> (try (exfalso; omega)))))
  obtain ⟨g1, g2, g3, g4⟩ := sbG_law (ws m 4) (ws n 4) hwa hwb (by rw [hla, hlb]) 4 0 0 [0, 0, 0, 0] (by rw [hla]) (by rw [hla]; rfl) (fun a ha => by simp at ha; subst ha; decide) (by omega) (fun p _ => by rcases p with _ | _ | _ | _ | p <;> rfl) (by simp [val])
  have hfin : sbG (ws m 4) (ws n 4) 4 0 0 [0, 0, 0, 0] = (0, ws (m - n) 4) := by
    generalize sbG (ws m 4) (ws n 4) 4 0 0 [0, 0, 0, 0] = R at *
    obtain ⟨c, l⟩ := R
    dsimp only at *
    rw [hva, hvb, hla] at g4
    have e := four l (by rw [g2, hla]) g1
    have hvl : val l < B64 ^ 4 := by have := val_lt l g1; rw [g2, hla] at this; exact this
    have hc : c = 0 := by
      rcases Nat.eq_zero_or_pos c with h | h
      · exact h
      · have : B64 ^ 4 * 1 ≤ B64 ^ 4 * c := Nat.mul_le_mul (Nat.le_refl _) h
        omega
    subst hc
    rw [Nat.mul_zero, Nat.add_zero] at g4
    have g5 : val l = m - n := by omega
    rw [g5] at e
    rw [e]
  refine awp_loop' (fun x : Nat × Nat × List Nat => sbS (ws m 4) (ws n 4) x.1 x.2.1 x.2.2) (fun x => x.1 ≤ 4 ∧ x.2.2.length = 4 ∧ x.2.1 ≤ 1 ∧ sbG (ws m 4) (ws n 4) (4 - x.1) x.1 x.2.1 x.2.2 = (0, ws (m - n) 4)) (fun x => 4 - x.1) (0, 0, [0, 0, 0, 0]) ⟨by omega, rfl, by show 0 ≤ 1; omega, hfin⟩ (by (refine Le.mk [] [] q_5ec36 q_43730 q_16bb5 q_509a2)) fun x hx => ?_
  obtain ⟨i, c, l⟩ := x
  obtain ⟨hx1, hx2, hx3, hx4⟩ := hx
  dsimp only at hx1 hx2 hx3 hx4
  change awp _ _ _ _ _ (sbS (ws m 4) (ws n 4) i c l)
  rcases Nat.lt_or_ge i 4 with hi | hi
  · obtain ⟨j, hj⟩ : ∃ j, 4 - i = j + 1 := ⟨4 - i - 1, by omega⟩
    have hj2 : j = 4 - (i + 1) := by omega
    rw [hj, sbG] at hx4
    subst hj2
    have ga : (wv (ws m 4))[0 + i * 1]? = some (.r (.v (.int .u64 ((ws m 4).getD i 0 : Nat)))) := by rw [show 0 + i * 1 = i by omega]; exact wv_get (by omega)
    have gb : (wv (ws n 4))[0 + i * 1]? = some (.r (.v (.int .u64 ((ws n 4).getD i 0 : Nat)))) := by rw [show 0 + i * 1 = i by omega]; exact wv_get (by omega)
    have hxa := hwa.get i
    have hxb := hwb.get i
    generalize ws m 4 = a at *
    generalize ws n 4 = b at *
    have hc1 : (if a.getD i 0 < b.getD i 0 + c then 1 else 0) ≤ 1 := by split <;> omega
    generalize a.getD i 0 = x at *
    generalize b.getD i 0 = y at *
    have key : ∀ i0, i = i0 → IntKind.i64.wrap ((i0 : Int) + 1) = ((i0 + 1 : Nat) : Int) := fun i0 h => nat_incI i0 (by omega)
    obtain ⟨l0, l1, l2, l3, rfl⟩ : ∃ l0 l1 l2 l3, l = [l0, l1, l2, l3] := by
      match l, hx2 with
      | [l0, l1, l2, l3], _ => exact ⟨l0, l1, l2, l3, rfl⟩
    have hcase : i = 0 ∨ i = 1 ∨ i = 2 ∨ i = 3 := by omega
    rcases hcase with rfl | rfl | rfl | rfl
    · have hnum := nums_sb a b (0 + 1) ((if x < y + c then 1 else 0)) ([l0, l1, l2, l3].set 0 ((x + B64 - y - c) % B64))
      (repeat' (first | refine r_4eabd4 ?_ | ((refine is_f 122 ?_; refine w_read rfl q_85eb5 (p_sub64 rfl rfl rfl hx3) ?_); try dsimp only [AV.unfr, AV.unfrs, frsL, pairs, rdOf, @List.length_cons Blk, @List.length_nil Blk, @List.nil_append (Nat × Option Blk), @List.cons_append (Nat × Option Blk), @List.nil_append Blk, @List.cons_append Blk, Nat.add_zero, Nat.zero_add, Nat.reduceAdd]) | (refine r_48b933 (fun hb => ?_) (fun hb => ?_) <;> (try (exfalso; omega))) | (refine awp_cond rfl (fun hb => ?_) (fun hb => ?_) <;> (try simp only [Bool.not_eq_true', Bool.not_eq_false', decide_eq_true_eq, decide_eq_false_iff_not] at hb) <;> (try (exfalso; omega)))))
      all_goals (first | (exfalso; omega) | exact ⟨(0 + 1, (if x < y + c then 1 else 0), [l0, l1, l2, l3].set 0 ((x + B64 - y - c) % B64)), ⟨by show 0 + 1 ≤ 4; omega, rfl, hc1, hx4⟩, by show Le _ _ (sbS a b (0 + 1) ((if x < y + c then 1 else 0)) ([l0, l1, l2, l3].set 0 ((x + B64 - y - c) % B64))); (refine Le.mk [] [] q_5ec36 q_43730 q_16bb5 q_509a2), by show 4 - (0 + 1) < 4 - 0; omega⟩)
    · have hnum := nums_sb a b (1 + 1) ((if x < y + c then 1 else 0)) ([l0, l1, l2, l3].set 1 ((x + B64 - y - c) % B64))
      (repeat' (first | refine r_4eabd4 ?_ | ((refine is_f 122 ?_; refine w_read rfl q_85eb5 (p_sub64 rfl rfl rfl hx3) ?_); try dsimp only [AV.unfr, AV.unfrs, frsL, pairs, rdOf, @List.length_cons Blk, @List.length_nil Blk, @List.nil_append (Nat × Option Blk), @List.cons_append (Nat × Option Blk), @List.nil_append Blk, @List.cons_append Blk, Nat.add_zero, Nat.zero_add, Nat.reduceAdd]) | (refine r_48b933 (fun hb => ?_) (fun hb => ?_) <;> (try (exfalso; omega))) | (refine awp_cond rfl (fun hb => ?_) (fun hb => ?_) <;> (try simp only [Bool.not_eq_true', Bool.not_eq_false', decide_eq_true_eq, decide_eq_false_iff_not] at hb) <;> (try (exfalso; omega)))))
      all_goals (first | (exfalso; omega) | exact ⟨(1 + 1, (if x < y + c then 1 else 0), [l0, l1, l2, l3].set 1 ((x + B64 - y - c) % B64)), ⟨by show 1 + 1 ≤ 4; omega, rfl, hc1, hx4⟩, by show Le _ _ (sbS a b (1 + 1) ((if x < y + c then 1 else 0)) ([l0, l1, l2, l3].set 1 ((x + B64 - y - c) % B64))); (refine Le.mk [] [] q_5ec36 q_43730 q_16bb5 q_509a2), by show 4 - (1 + 1) < 4 - 1; omega⟩)
    · have hnum := nums_sb a b (2 + 1) ((if x < y + c then 1 else 0)) ([l0, l1, l2, l3].set 2 ((x + B64 - y - c) % B64))
      (repeat' (first | refine r_4eabd4 ?_ | ((refine is_f 122 ?_; refine w_read rfl q_85eb5 (p_sub64 rfl rfl rfl hx3) ?_); try dsimp only [AV.unfr, AV.unfrs, frsL, pairs, rdOf, @List.length_cons Blk, @List.length_nil Blk, @List.nil_append (Nat × Option Blk), @List.cons_append (Nat × Option Blk), @List.nil_append Blk, @List.cons_append Blk, Nat.add_zero, Nat.zero_add, Nat.reduceAdd]) | (refine r_48b933 (fun hb => ?_) (fun hb => ?_) <;> (try (exfalso; omega))) | (refine awp_cond rfl (fun hb => ?_) (fun hb => ?_) <;> (try simp only [Bool.not_eq_true', Bool.not_eq_false', decide_eq_true_eq, decide_eq_false_iff_not] at hb) <;> (try (exfalso; omega)))))
      all_goals (first | (exfalso; omega) | exact ⟨(2 + 1, (if x < y + c then 1 else 0), [l0, l1, l2, l3].set 2 ((x + B64 - y - c) % B64)), ⟨by show 2 + 1 ≤ 4; omega, rfl, hc1, hx4⟩, by show Le _ _ (sbS a b (2 + 1) ((if x < y + c then 1 else 0)) ([l0, l1, l2, l3].set 2 ((x + B64 - y - c) % B64))); (refine Le.mk [] [] q_5ec36 q_43730 q_16bb5 q_509a2), by show 4 - (2 + 1) < 4 - 2; omega⟩)
    · have hnum := nums_sb a b (3 + 1) ((if x < y + c then 1 else 0)) ([l0, l1, l2, l3].set 3 ((x + B64 - y - c) % B64))
      (repeat' (first | refine r_4eabd4 ?_ | ((refine is_f 122 ?_; refine w_read rfl q_85eb5 (p_sub64 rfl rfl rfl hx3) ?_); try dsimp only [AV.unfr, AV.unfrs, frsL, pairs, rdOf, @List.length_cons Blk, @List.length_nil Blk, @List.nil_append (Nat × Option Blk), @List.cons_append (Nat × Option Blk), @List.nil_append Blk, @List.cons_append Blk, Nat.add_zero, Nat.zero_add, Nat.reduceAdd]) | (refine r_48b933 (fun hb => ?_) (fun hb => ?_) <;> (try (exfalso; omega))) | (refine awp_cond rfl (fun hb => ?_) (fun hb => ?_) <;> (try simp only [Bool.not_eq_true', Bool.not_eq_false', decide_eq_true_eq, decide_eq_false_iff_not] at hb) <;> (try (exfalso; omega)))))
      all_goals (first | (exfalso; omega) | exact ⟨(3 + 1, (if x < y + c then 1 else 0), [l0, l1, l2, l3].set 3 ((x + B64 - y - c) % B64)), ⟨by show 3 + 1 ≤ 4; omega, rfl, hc1, hx4⟩, by show Le _ _ (sbS a b (3 + 1) ((if x < y + c then 1 else 0)) ([l0, l1, l2, l3].set 3 ((x + B64 - y - c) % B64))); (refine Le.mk [] [] q_5ec36 q_43730 q_16bb5 q_509a2), by show 4 - (3 + 1) < 4 - 3; omega⟩)
  · have hie : 4 - i = 0 := by omega
    rw [hie, sbG] at hx4
    injection hx4 with h1 h2
    subst h1 h2
    (repeat' (first | refine r_4eabd4 ?_ | (refine r_48b933 (fun hb => ?_) (fun hb => ?_) <;> (try (exfalso; omega))) | (refine awp_cond rfl (fun hb => ?_) (fun hb => ?_) <;> (try simp only [Bool.not_eq_true', Bool.not_eq_false', decide_eq_true_eq, decide_eq_false_iff_not] at hb) <;> (try (exfalso; omega)))))
    all_goals (first | (exfalso; omega) | exact ret1c [] (Rt.w4 (m - n)) rfl rfl rfl rfl (post_none rfl) rfl)
end Go.Proofs.YtibedaeefnjjlaaGreat
