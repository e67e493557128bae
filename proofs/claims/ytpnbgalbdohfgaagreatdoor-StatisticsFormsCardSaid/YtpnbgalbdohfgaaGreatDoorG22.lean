/- Texts of the second layer in one: Eq1 Tx8 Tx9 Tx10 Tx11. -/
import Derived.Test.YtpnbgalbdohfgaaGreatDoorG16
import Derived.Test.YtpnbgalbdohfgaaGreatDoorG21
import Derived.Test.YtpnbgalbdohfgaaGreatDoorG13
set_option maxHeartbeats 4000000
set_option maxRecDepth 100000
set_option linter.unusedVariables false
set_option linter.unusedSimpArgs false
namespace Go.Proofs.YtpnbgalbdohfgaaGreatDoor
open Go.RowKit Go.Ab Go.Wd
def wdVs (b : Bool) (n : Nat) : List Value := [.bool b, .int .u64 ((n % B64 : Nat) : Int), .int .u64 ((n / B64 % B64 : Nat) : Int), .int .u64 ((n / B64 / B64 % B64 : Nat) : Int), .int .u64 ((n / B64 / B64 / B64 % B64 : Nat) : Int)]
theorem zgg (l : List (List UInt8)) : Lib.join l [] = l.flatten := by
 rcases l with _ | ⟨x, l⟩
 ·rfl
 ·rw [Lib.join_cons, List.flatten_cons]
  congr 1
  unfold Lib.joinTail
  congr 1
  exact (List.map_congr_left fun x _ => rfl).trans (List.map_id l)
theorem zgt : ∀ (k n : Nat), 1 ≤ k → n < 1000000000000000000 ^ k → (zbt n).length ≤ k
 | 0, n, h, _ => by omega
 | k + 1, n, _, hn => by
  rw [zbt]
  split
  ·simp
  ·rename_i h
   have hk : 1 ≤ k := by
    rcases Nat.eq_zero_or_pos k with h0 | h0
    ·subst h0; simp at hn; omega
    ·exact h0
   rw [Nat.pow_succ] at hn
   have := zgt k (n / 1000000000000000000) hk (Nat.div_lt_of_lt_mul (by rw [Nat.mul_comm]; exact hn))
   simp
   omega
theorem zmg : B64 ^ 4 < 1000000000000000000 ^ 5 := by decide
def wc4 (n : Nat) : List AV := [.r (.v (.int .u64 ((n % B64 : Nat) : Int))), .r (.v (.int .u64 ((n / B64 % B64 : Nat) : Int))), .r (.v (.int .u64 ((n / B64 / B64 % B64 : Nat) : Int))), .r (.v (.int .u64 ((n / B64 / B64 / B64 % B64 : Nat) : Int)))]
noncomputable def txS (o : Obj) (g : Bool) (n m : Nat) (L : List (List UInt8)) : St := ⟨[(1, .pt 1 0), (3, .ow 3), (4, .pt 2 0)], [(0, some (.gl g10 o)), (1, some (.var 26 (wc g n))), (2, some (.var 24 (wc4 m))), (3, some (.row 9 1 (strs L)))], 4⟩
theorem zip (b : Bool) (n : Nat) (hn : n < B64 ^ 4) (T : TypeId) (fr : Nat × Nat) : zdg Tryz.prog 24 g10 (tabO T fr) [.agg (wdVs b n).toArray] (.string (txt (zb b n))) := by
 refine zdg.of (Pure.ag (l := wdVs b n) Pure.nil) ?_
 change zaq _ _ [wd b n] _ _ _
 have cC := zk6 b n hn
 have hz : (zb b n).natAbs = n := by unfold zb; split <;> omega
 have hcap := zgD hn
 generalize zb b n = z at *
 have hneg : ∀ g, decide (z < 0) = g → txt z = sb (if g = true then 45 :: Lib.decDigits n else Lib.decDigits n) := fun g hg => by
  subst hg
  unfold txt Lib.itoa
  by_cases h : z < 0
  ·rw [if_pos h, if_pos (by simp [h]), hz]
  ·rw [if_neg h, if_neg (by simp [h]), show z.toNat = n by omega]
 have hlen5 := zgt 5 n (by omega) (Nat.lt_trans hn zmg)
 have hdec := zgs n n (Nat.le_refl _)
 unfold wz at cC
 rw [hz] at cC
 have hneg := hneg _ rfl
 generalize txt z = r at *
 generalize decide (z < 0) = g at *
 have cFr := fun (u : Nat) (hu : u < B64) => zht u hu T fr
 generalize tabO T fr = o at *
 clear hz
 have hP : w4 1000000000000000000 = .ag [.r (.v (.int .u64 1000000000000000000)), .r (.v (.int .u64 0)), .r (.v (.int .u64 0)), .r (.v (.int .u64 0))] := rfl
 refine zaw Tryz.func24 rfl (Nat.le_of_ble_eq_true rfl) rfl rfl ?_
 (repeat' (first | refine zao ?_ | (refine is_f 43 ?_; refine zav (cC) ?_) | (refine zab (fun hb => ?_) (fun hb => ?_) <;> (try (exfalso; omega))) | fail))
 refine zd9 3 9 1 rfl rfl ?_
 have h00 : ([] : List (List RV)) = strs [] := rfl
 refine zap (fun x : Nat × List (List UInt8) => txS o g n x.1 x.2) (fun x => x.1 ≤ n ∧ x.2 ++ zbt x.1 = zbt n) (fun x => x.1) (n, []) ⟨Nat.le_refl _, rfl⟩ (by (refine Le.mk [(0,0),(1,1),(2,2),(3,3)] [] zai zaK zaS zah)) fun x hx => ?_
 obtain ⟨m, L⟩ := x
 obtain ⟨hm, hL⟩ := hx
 dsimp only at hm hL
 change awp _ _ _ _ _ (txS o g n m L)
 have hmB : m < B64 ^ 4 := Nat.lt_of_le_of_lt hm hn
 have cD := znw m 1000000000000000000 hmB (by decide) (by omega)
 rw [hP] at cD
 have hr18 : m % 1000000000000000000 < 1000000000000000000 := Nat.mod_lt _ (by omega)
 have cF := cFr (m % 1000000000000000000 % B64) (Nat.mod_lt _ (by decide))
 rw [show Lib.decDigits (m % 1000000000000000000 % B64) = Lib.decDigits (m % 1000000000000000000) by rw [Nat.mod_eq_of_lt (show m % 1000000000000000000 < B64 by unfold B64; omega)]] at cF
 have hs18 := zhT 18 _ (by omega) hr18
 have hsz := zeL (Lib.decDigits (m % 1000000000000000000))
 have hE := eqw4 (m / 1000000000000000000) (Nat.lt_of_le_of_lt (Nat.div_le_self _ _) hmB)
 have hLl : L.length + (zbt m).length = (zbt n).length := by rw [← hL, List.length_append]
 have hLs := zfb L
 by_cases hq : m < 1000000000000000000
 ·have hq0 : m / 1000000000000000000 = 0 := Nat.div_eq_of_lt hq
  have hT : zbt m = [Lib.decDigits (m % 1000000000000000000)] := by rw [zbt, dif_pos hq, Nat.mod_eq_of_lt hq]
  rw [hT] at hL
  generalize Lib.decDigits (m % 1000000000000000000) = s at *
  (repeat' (first | (first | refine zbm 12 ?_ | refine za4 12 ?_) | refine zcy ?_ | refine zbp ?_ | (refine is_f 44 ?_; refine zav (cD) ?_) | ((refine is_f 45 ?_; refine zcw 0 (cF) zct (by kernel_rfl) rfl rfl zaa ?_); try dsimp only [AV.unfr, AV.unfrs, frsL, zaO, rdOf, @List.length_cons Blk, @List.length_nil Blk, @List.nil_append (Nat × Option Blk), @List.cons_append (Nat × Option Blk), @List.nil_append Blk, @List.cons_append Blk, Nat.add_zero, Nat.zero_add, Nat.reduceAdd]) | (refine zab (fun hb => ?_) (fun hb => ?_) <;> (try (exfalso; omega))) | fail))
  all_goals (first | exact absurd (hE.trans (decide_eq_true hq0)) hb | skip)
  refine halt ?_
  have hE1 : strs L ++ [[.v (.string (sb s))]] = strs (zbt n) := by rw [← hL, zfQ]; rfl
  have hlS := zfb (zbt n)
  refine zci (T := ⟨[(1, .pt 1 0), (3, .ow 2)], [(0, some (.gl g10 o)), (1, some (.var 26 (wc g n))), (2, some (.row 9 1 (strs (zbt n))))], 3⟩) (by rw [← hE1]; (refine Le.mk [(0,0),(1,1),(2,7)] [] zai zaK zaS zah)) ?_
  clear hE hE1 cF cD
  have cR := zkC 9 (zbt n) (by omega)
  have cJ := zhv 9 (zbt n).reverse [] (by rw [List.length_reverse]; omega) (by rw [zgg, hdec]; omega)
  rw [zgg, hdec] at cJ
  have hcap2 : (45 :: Lib.decDigits n).length ≤ 9223372036854775807 := by simp; omega
  generalize Lib.decDigits n = D at *
  generalize zbt n = P at *
  rcases g with _ | _
  ·have hneg : r = sb D := hneg
   subst hneg
   (repeat' (first | refine zao ?_ | (refine is_f 47 ?_; refine zbI (cR) ?_) | (refine is_f 22 ?_; refine zbI (cJ) ?_) | (refine zab (fun hb => ?_) (fun hb => ?_) <;> (try (exfalso; omega))) | fail))
   all_goals (first | (exfalso; omega) | exact zbC [] (.r _) rfl rfl (zaF rfl rfl) rfl)
  ·have hneg : r = sb (45 :: D) := hneg
   subst hneg
   (repeat' (first | (refine zbu ?_; refine za2 ?_; refine zag rfl zaa (zcs (a := [45]) (b := D) (c := 45 :: D) rfl hcap2 rfl rfl) ?_) | refine zao ?_ | (refine is_f 47 ?_; refine zbI (cR) ?_) | (refine is_f 22 ?_; refine zbI (cJ) ?_) | (refine zab (fun hb => ?_) (fun hb => ?_) <;> (try (exfalso; omega))) | fail))
   all_goals (first | (exfalso; omega) | exact zbC [] (.r _) rfl rfl (zaF rfl rfl) rfl)
 ·have hq0 : m / 1000000000000000000 ≠ 0 := fun h => hq (by omega)
  have hT : zbt m = pad 18 (m % 1000000000000000000) :: zbt (m / 1000000000000000000) := by rw [zbt, dif_neg hq]
  rw [hT] at hL hLl
  have hlt : m / 1000000000000000000 < m := Nat.div_lt_self (by omega) (by omega)
  have hpl : pad 18 (m % 1000000000000000000) = List.replicate (18 - (Lib.decDigits (m % 1000000000000000000)).length) 48 ++ Lib.decDigits (m % 1000000000000000000) := rfl
  have hd1 := zmq (m % 1000000000000000000)
  have hpn : (pad 18 (m % 1000000000000000000)).length ≤ 9223372036854775807 := by rw [hpl, List.length_append, List.length_replicate]; omega
  generalize pad 18 (m % 1000000000000000000) = p at *
  generalize Lib.decDigits (m % 1000000000000000000) = s at *
  have cRp := zlA [48] (18 - s.length) (by omega) (by simp)
  rw [zkz, show ((18 - s.length : Nat) : Int) = 18 - ((sb s).size : Int) by rw [hsz]; omega] at cRp
  have hE1 : strs L ++ [[.v (.string (sb p))]] = strs (L ++ [p]) := by rw [zfQ]; rfl
  have hpl2 := hpl.symm
  have hinv : m / 1000000000000000000 ≤ n ∧ (L ++ [p]) ++ zbt (m / 1000000000000000000) = zbt n := ⟨by omega, by rw [← hL]; simp⟩
  simp only [List.length_cons] at hLl
  clear hpl hL
  (repeat' (first | (first | refine zbm 12 ?_ | refine za4 12 ?_) | (refine zbu ?_; refine za2 ?_; refine zag rfl zaa (zcs hpl2 hpn rfl rfl) ?_) | refine zcy ?_ | refine zbp ?_ | (refine is_f 44 ?_; refine zav (cD) ?_) | ((refine is_f 45 ?_; refine zcw 0 (cF) zct (by kernel_rfl) rfl rfl zaa ?_); try dsimp only [AV.unfr, AV.unfrs, frsL, zaO, rdOf, @List.length_cons Blk, @List.length_nil Blk, @List.nil_append (Nat × Option Blk), @List.cons_append (Nat × Option Blk), @List.nil_append Blk, @List.cons_append Blk, Nat.add_zero, Nat.zero_add, Nat.reduceAdd]) | (refine is_f 46 ?_; refine zav (cRp) ?_) | (refine zab (fun hb => ?_) (fun hb => ?_) <;> (try (exfalso; omega))) | fail))
  all_goals (first | exact absurd (of_decide_eq_true (hE.symm.trans hb)) hq0 | skip)
  all_goals exact ⟨(m / 1000000000000000000, L ++ [p]), hinv, by show Le _ _ (txS o g n (m / 1000000000000000000) (L ++ [p])); unfold txS; rw [← hE1]; (refine Le.mk [(0,0),(1,1),(2,8),(3,7)] [] zai zaK zaS zah), hlt⟩
def Eqs (P : Program) (d : Nat) (t : TypeId) (v : Value) : Prop := ∀ w, (Op.equalIn d t v v).run P w = .ok true w
theorem zfk {P : Program} {d : Nat} {t : TypeId} {k k' : IntKind} {a : Int} (h : P.underlying t = some (.int k')) : Eqs P (d + 1) t (.int k a) := fun w => by
 rw [run_equalIn_int w d t k k' a a h]; simp
theorem zlb {P : Program} {d : Nat} {t : TypeId} {a : Bool} (h : P.underlying t = some .bool) : Eqs P (d + 1) t (.bool a) := fun w => by
 rw [run_equalIn_bool' w d t a a h]; simp
theorem zhq {P : Program} {d : Nat} {e : TypeId} {xs : Array Value} {w : World} : ∀ (is : List Nat), (∀ i ∈ is, ∃ v, (Go.part e xs (i * 1)).run P w = .ok v w ∧ Eqs P d e v) → (Op.eqItems d e 1 xs xs is).run P w = .ok true w
 | [], _ => rfl
 | i :: is, h => by
  obtain ⟨v, h1, h2⟩ := h i (by simp)
  have ih := zhq is (fun j hj => h j (by simp [hj]))
  simp only [Op.eqItems, Sem.run_bind, h1, h2 w, Result.andThen_ok]
  simp [ih]
theorem zeC {P : Program} {d : Nat} {xs : Array Value} {w : World} : ∀ (fs : List Field), (∀ f ∈ fs, ∃ v, (Go.part f.type xs f.offset).run P w = .ok v w ∧ Eqs P d f.type v) → (Op.eqFields d xs xs fs).run P w = .ok true w
 | [], _ => rfl
 | f :: fs, h => by
  obtain ⟨v, h1, h2⟩ := h f (by simp)
  have ih := zeC fs (fun j hj => h j (by simp [hj]))
  simp only [Op.eqFields, Sem.run_bind, Sem.run_ite, h1, h2 w, Result.andThen_ok]
  split <;> simp [ih]
theorem znx {d : Nat} {a b c e : Int} : Eqs Tryz.prog (d + 2) 24 (.agg #[.int .u64 a, .int .u64 b, .int .u64 c, .int .u64 e]) := fun w => by
 have hu : Tryz.prog.underlying 24 = some (.array 4 23) := by kernel_rfl
 have hq : Tryz.prog.underlying 23 = some (.int .u64) := by kernel_rfl
 have hc : Tryz.prog.cellsOf 23 = 1 := by kernel_rfl
 obtain ⟨i, hi⟩ : ∃ i, Tryz.prog.info? 23 = some i := by
  cases h : Tryz.prog.info? 23 with
  | some i => exact ⟨i, rfl⟩
  | none => have : (Tryz.prog.info? 23).isSome = true := by kernel_rfl
            rw [h] at this; cases this
 rw [run_equalIn_array (w := w) (d + 1) _ _ hu hi, hc]
 refine zhq _ fun j hj => ?_
 have hj4 := List.mem_range.1 hj
 have hcase : j = 0 ∨ j = 1 ∨ j = 2 ∨ j = 3 := by omega
 rcases hcase with rfl | rfl | rfl | rfl
 ·exact ⟨.int .u64 a, zbB hq rfl w, zfk hq⟩
 ·exact ⟨.int .u64 b, zbB hq rfl w, zfk hq⟩
 ·exact ⟨.int .u64 c, zbB hq rfl w, zfk hq⟩
 ·exact ⟨.int .u64 e, zbB hq rfl w, zfk hq⟩
theorem zeo {P : Program} {t : TypeId} {D : TypeDesc} {xs : Array Value} {off : Nat} {v : Value} (hu : P.underlying t = some D) (hD : zb9 D = false) (hx : xs[off]? = some v) (w : World) : (Go.part t xs off).run P w = .ok v w := by
 have : (isAgg t).run P w = .ok false w := by
  simp only [isAgg, Sem.run_bind, run_underlying hu, Result.andThen_ok, Sem.run_pure]
  cases D <;> first | rfl | (cases hD)
 simp only [Go.part, Sem.run_bind, this, Result.andThen_ok, Bool.false_eq_true, if_false, hx, Sem.run_pure]
theorem zcA {P : Program} {t : TypeId} {D : TypeDesc} {xs : Array Value} {off n : Nat} (hu : P.underlying t = some D) (hD : zb9 D = true) (hs : (P.info? t).map (·.size) = some n) (w : World) : (Go.part t xs off).run P w = .ok (.agg (xs.extract off (off + n))) w := by
 have : (isAgg t).run P w = .ok true w := by
  simp only [isAgg, Sem.run_bind, run_underlying hu, Result.andThen_ok, Sem.run_pure]
  cases D <;> first | rfl | (cases hD)
 simp only [Go.part, Sem.run_bind, this, Result.andThen_ok, if_true, Go.Ab.run_sizeOf hs, Sem.run_pure]
theorem zgb {P : Program} {t : TypeId} {l : List (TypeId × Nat)} (h : (P.fieldsOf t).toList.map (fun f => (f.type, f.offset)) = l) {Q : TypeId → Nat → Prop} (hq : ∀ p ∈ l, Q p.1 p.2) : ∀ f ∈ (P.fieldsOf t).toList, Q f.type f.offset := fun f hf => by
 have : (f.type, f.offset) ∈ l := by rw [← h]; exact List.mem_map.2 ⟨f, hf, rfl⟩
 exact hq _ this
theorem zgF {d : Nat} {s : Bool} {a b c e : Int} : Eqs Tryz.prog (d + 3) 26 (.agg #[.bool s, .int .u64 a, .int .u64 b, .int .u64 c, .int .u64 e]) := fun w => by
 have hs : Tryz.prog.underlying 26 = some (.struct (Tryz.prog.fieldsOf 26)) := by kernel_rfl
 rw [run_equalIn_struct w (d + 2) _ _ _ hs (by kernel_rfl)]
 have hb : Tryz.prog.underlying 4 = some .bool := by kernel_rfl
 have hu : Tryz.prog.underlying 24 = some (.array 4 23) := by kernel_rfl
 refine zeC _ (zgb (Q := fun t o => ∃ v, (Go.part t #[.bool s, .int .u64 a, .int .u64 b, .int .u64 c, .int .u64 e] o).run Tryz.prog w = .ok v w ∧ Eqs Tryz.prog (d + 2) t v) (l := [(4, 0), (24, 1)]) (by kernel_rfl) fun p hp => ?_)
 simp only [List.mem_cons, List.not_mem_nil, or_false] at hp
 rcases hp with rfl | rfl
 ·exact ⟨.bool s, zeo hb rfl rfl w, zlb hb⟩
 ·exact ⟨_, zcA (n := 4) hu rfl (by kernel_rfl) w, znx⟩
theorem zmv {d : Nat} {n : Int} {s1 s2 s3 : Bool} {a b c e a' b' c' e' a'' b'' c'' e'' : Int} : Eqs Tryz.prog (d + 4) 28 (.agg #[.int .i64 n, .bool s1, .int .u64 a, .int .u64 b, .int .u64 c, .int .u64 e, .bool s2, .int .u64 a', .int .u64 b', .int .u64 c', .int .u64 e', .bool s3, .int .u64 a'', .int .u64 b'', .int .u64 c'', .int .u64 e'']) := fun w => by
 have hs : Tryz.prog.underlying 28 = some (.struct (Tryz.prog.fieldsOf 28)) := by kernel_rfl
 rw [run_equalIn_struct w (d + 3) _ _ _ hs (by kernel_rfl)]
 have hi : Tryz.prog.underlying 3 = some (.int .i64) := by kernel_rfl
 have hu : Tryz.prog.underlying 26 = some (.struct (Tryz.prog.fieldsOf 26)) := by kernel_rfl
 refine zeC _ (zgb (Q := fun t o => ∃ v, (Go.part t #[.int .i64 n, .bool s1, .int .u64 a, .int .u64 b, .int .u64 c, .int .u64 e, .bool s2, .int .u64 a', .int .u64 b', .int .u64 c', .int .u64 e', .bool s3, .int .u64 a'', .int .u64 b'', .int .u64 c'', .int .u64 e''] o).run Tryz.prog w = .ok v w ∧ Eqs Tryz.prog (d + 3) t v) (l := [(3, 0), (26, 1), (26, 6), (26, 11)]) (by kernel_rfl) fun p hp => ?_)
 simp only [List.mem_cons, List.not_mem_nil, or_false] at hp
 rcases hp with rfl | rfl | rfl | rfl
 ·exact ⟨.int .i64 n, zeo hi rfl rfl w, zfk hi⟩
 ·exact ⟨_, zcA (n := 5) hu rfl (by kernel_rfl) w, zgF⟩
 ·exact ⟨_, zcA (n := 5) hu rfl (by kernel_rfl) w, zgF⟩
 ·exact ⟨_, zcA (n := 5) hu rfl (by kernel_rfl) w, zgF⟩
section
variable {env : Nat → AV} {H : Nat → Option Blk} {d : Option Tmp} {ty : TypeId} {pos : String} {af : Array Edge} {g : Option (Nat × Bool)} {u : TypeId} {x y : Operand}
theorem zmN {c w0 s q : Nat} (hx : evA env x = smA c w0 s q) (hy : evA env y = smA c w0 s q) : zas Tryz.prog ⟨d, .binOp .eql 28 x y u, ty, pos, af, g⟩ env H [] (.r (.v (.bool true))) := by
 refine ⟨fun i b h => by simp at h, fun i hi => by simp [AV.ids] at hi, fun a w Z M hr _ => ?_⟩
 have h1 := hr x (by simp [Op.operands])
 have h2 := hr y (by simp [Op.operands])
 rw [hx] at h1
 rw [hy] at h2
 have key : ∀ v, AV.rep Z M w (smA c w0 s q) v → v = .agg ((smR c w0 s q).map fun r => match r with | .v x => x | _ => undef).toArray := by
  intro v hv
  rw [smA, AV.rep] at hv
  obtain ⟨us, rfl, h⟩ := hv
  congr 1
  have : us.toList = (smR c w0 s q).map fun r => match r with | .v x => x | _ => undef := by
   revert h
   generalize us.toList = l
   unfold smR
   simp only [List.map_cons, List.map_nil, AV.reps, AV.rep, RV.rep]
   rintro ⟨_, _, rfl, rfl, _, _, rfl, rfl, _, _, rfl, rfl, _, _, rfl, rfl, _, _, rfl, rfl, _, _, rfl, rfl, _, _, rfl, rfl, _, _, rfl, rfl, _, _, rfl, rfl, _, _, rfl, rfl, _, _, rfl, rfl, _, _, rfl, rfl, _, _, rfl, rfl, _, _, rfl, rfl, _, _, rfl, rfl, _, _, rfl, rfl, rfl⟩
   rfl
  rw [← this]
 have e1 := key _ h1
 have e2 := key _ h2
 have k1 := run_eqGuard_agg (P := Tryz.prog) w .eql 28 x y ((smR c w0 s q).map fun r => match r with | .v x => x | _ => undef).toArray ((smR c w0 s q).map fun r => match r with | .v x => x | _ => undef).toArray (by kernel_rfl)
 have k2 : (Op.equalIn 10000 28 (.agg ((smR c w0 s q).map fun r => match r with | .v x => x | _ => undef).toArray) (.agg ((smR c w0 s q).map fun r => match r with | .v x => x | _ => undef).toArray)).run Tryz.prog w = .ok true w := zmv (d := 9996) w
 refine ⟨.bool true, ?_, by rw [AV.rep, RV.rep]⟩
 simp only [execOp, e1, e2, Sem.run_bind, k1, Result.andThen_ok, run_eql_struct, k2, Sem.run_pure]
end
theorem zlz (l : List Int) (hl : l.length ≤ 140737488355328) : zaq Tryz.prog 55 [.r (.sl 1 (nums .i64 l))] [] (.r (.v (.bool (inc l)))) [] := by
 refine zaw Tryz.func55 rfl (Nat.le_of_ble_eq_true rfl) rfl rfl ?_
 have hlen : (nums .i64 l).length = l.length := za5 .i64 l
 (repeat' (first | refine zao ?_ | (refine zab (fun hb => ?_) (fun hb => ?_) <;> (try (exfalso; omega))) | fail))
 refine zap (fun k => ⟨[(0, .r (.sl 1 (nums .i64 l))), (3, .r (.v (.int .i64 ((k + 1 : Nat) : Int))))], [], 0⟩) (fun k => (k = 0 ∨ k + 1 ≤ l.length) ∧ ∀ i, i < k → decide (l.getD i 0 < l.getD (i + 1) 0) = true) (fun k => l.length - k) 0 ⟨.inl rfl, fun i h => by omega⟩ (by (refine Le.mk [] [] zai zaK zgY zah)) fun k hk => ?_
 obtain ⟨hk, hall⟩ := hk
 have hkk : l.getD (k + 1 - 1) 0 = l.getD k 0 := rfl
 rcases Nat.lt_or_ge (k + 1) l.length with h | h
 ·by_cases hlt : l.getD k 0 < l.getD (k + 1) 0
  ·(repeat' (first | refine zao ?_ | (refine zab (fun hb => ?_) (fun hb => ?_) <;> (try (exfalso; omega))) | fail))
   all_goals exact ⟨k + 1, ⟨.inr (by omega), fun i hi => if h2 : i < k then hall i h2 else (show i = k by omega) ▸ decide_eq_true hlt⟩, by (refine Le.mk [] [] zai zaK zgY zah), by omega⟩
  ·(repeat' (first | refine zao ?_ | (refine zab (fun hb => ?_) (fun hb => ?_) <;> (try (exfalso; omega))) | fail))
   all_goals exact ret1 [] (.bool (zcE k (by omega) (decide_eq_false hlt))) rfl rfl rfl
 ·(repeat' (first | refine zao ?_ | (refine zab (fun hb => ?_) (fun hb => ?_) <;> (try (exfalso; omega))) | fail))
  all_goals exact ret1 [] (.bool (zd8 fun i hi => hall i (by omega))) rfl rfl rfl
theorem zgp (l : List (Int × Int)) (hl : l.length ≤ 8796093022000) : zaq Tryz.prog 56 [.r (.sl 2 (smps l))] [] (.fr 2 1 (nums .i64 (l.map Prod.fst))) [] := by
 refine zaw Tryz.func56 rfl (Nat.le_of_ble_eq_true rfl) rfl rfl ?_
 have hlen : (smps l).length = l.length := za8 l
 (repeat' (first | refine zao ?_ | (refine zab (fun hb => ?_) (fun hb => ?_) <;> (try (exfalso; omega))) | fail))
 refine zd9 3 2 1 rfl rfl ?_
 have h00 : ([] : List (List RV)) = nums .i64 ((l.take 0).map Prod.fst) := rfl
 refine zap (fun k => ⟨[(0, .r (.sl 2 (smps l))), (3, .ow 0), (4, .r (.v (.int .i64 (k : Nat))))], [(0, some (.row 2 1 (nums .i64 ((l.take k).map Prod.fst))))], 1⟩) (fun k => k ≤ l.length) (fun k => l.length - k) 0 (Nat.zero_le _) (by (refine Le.mk [(0,0)] [] zai zaK zgY zah)) fun k hk => ?_
 have hr1 : (nums .i64 ((l.take k).map Prod.fst)).length = k := by rw [za5, List.length_map, List.length_take]; omega
 have hr2 : ((l.take k).map Prod.fst).length = k := by rw [List.length_map, List.length_take]; omega
 by_cases hkl : k < l.length
 ·have hE : nums .i64 ((l.take k).map Prod.fst) ++ [[.v (.int .i64 (l.getD k (0, 0)).1)]] = nums .i64 ((l.take (k + 1)).map Prod.fst) := by rw [zdK l k (0, 0) hkl, List.map_append, zdY]; rfl
  (repeat' (first | refine zao ?_ | (refine zab (fun hb => ?_) (fun hb => ?_) <;> (try (exfalso; omega))) | fail))
  all_goals exact ⟨k + 1, by show k + 1 ≤ l.length; omega, by (refine Le.mk [(0,2)] [] zai zaK zgY zah), by show l.length - (k + 1) < l.length - k; omega⟩
 ·have e : nums .i64 ((l.take k).map Prod.fst) = nums .i64 (l.map Prod.fst) := by rw [List.take_of_length_le (by omega)]
  (repeat' (first | refine zao ?_ | (refine zab (fun hb => ?_) (fun hb => ?_) <;> (try (exfalso; omega))) | fail))
  all_goals (rw [← e]; exact ret1 [] (.fr 0 _ _ _ rfl) rfl rfl rfl)
theorem zeU (l : List (Int × Int)) (hl : l.length ≤ 8796093022000) : zaq Tryz.prog 33 [.r (.sl 2 (smps l))] [] (.r (.v (.int .i64 (chkS l)))) [] := by
 refine zaw Tryz.func33 rfl (Nat.le_of_ble_eq_true rfl) rfl rfl ?_
 have hc := zlz (l.map Prod.fst) (by rw [List.length_map]; omega)
 cases hi : inc (l.map Prod.fst) with
 | true =>
  rw [hi] at hc
  have hr : (0 : Int) = chkS l := by unfold chkS; rw [hi]; rfl
  (repeat' (first | refine zao ?_ | (refine is_f 56 ?_; refine zav (zgp l hl) ?_) | (refine is_f 55 ?_; refine ziP (hc) ?_) | (refine zab (fun hb => ?_) (fun hb => ?_) <;> (try (exfalso; omega))) | fail))
  all_goals exact ret1 [] (.int hr) rfl rfl rfl
 | false =>
  rw [hi] at hc
  have hr : (7 : Int) = chkS l := by unfold chkS; rw [hi]; rfl
  (repeat' (first | refine zao ?_ | (refine is_f 56 ?_; refine zav (zgp l hl) ?_) | (refine is_f 55 ?_; refine ziP (hc) ?_) | (refine zab (fun hb => ?_) (fun hb => ?_) <;> (try (exfalso; omega))) | fail))
  all_goals exact ret1 [] (.int hr) rfl rfl rfl
def sgV (c : Int) (b1 : Bool) (n1 : Nat) (b2 : Bool) (n2 : Nat) (b3 : Bool) (n3 : Nat) : List Value := [.int .i64 c, .bool b1, .int .u64 ((n1 % B64 : Nat) : Int), .int .u64 ((n1 / B64 % B64 : Nat) : Int), .int .u64 ((n1 / B64 / B64 % B64 : Nat) : Int), .int .u64 ((n1 / B64 / B64 / B64 % B64 : Nat) : Int),
 .bool b2, .int .u64 ((n2 % B64 : Nat) : Int), .int .u64 ((n2 / B64 % B64 : Nat) : Int), .int .u64 ((n2 / B64 / B64 % B64 : Nat) : Int), .int .u64 ((n2 / B64 / B64 / B64 % B64 : Nat) : Int),
 .bool b3, .int .u64 ((n3 % B64 : Nat) : Int), .int .u64 ((n3 / B64 % B64 : Nat) : Int), .int .u64 ((n3 / B64 / B64 % B64 : Nat) : Int), .int .u64 ((n3 / B64 / B64 / B64 % B64 : Nat) : Int)]
def tx33 (c z1 z2 z3 : Int) : List UInt8 := Lib.join [Lib.itoa c, Lib.itoa z1, Lib.itoa z2, Lib.itoa z3] [32]
theorem zkX (c z1 z2 z3 : Int) : tx33 c z1 z2 z3 = (((((Lib.itoa c ++ [32]) ++ Lib.itoa z1) ++ [32]) ++ Lib.itoa z2) ++ [32]) ++ Lib.itoa z3 := by
 unfold tx33
 rw [Lib.join_cons]
 simp [Lib.joinTail]
theorem zbW {z : Int} (hz : z.natAbs < B64 ^ 4) : (Lib.itoa z).length ≤ 79 := by
 have := ziV hz
 unfold txt at this
 rwa [zeL] at this
theorem zjZ {c : Int} (hc : I64 c) : c.natAbs < B64 ^ 4 := Nat.lt_of_lt_of_le (show c.natAbs < 9223372036854775809 by have := hc.1; have := hc.2; omega) (by decide)
theorem zgA (b : Bool) (n : Nat) : (zb b n).natAbs = n := by unfold zb; split <;> omega
theorem zg6 (c : Int) (hc : I64 c) (b1 : Bool) (n1 : Nat) (b2 : Bool) (n2 : Nat) (b3 : Bool) (n3 : Nat) (h1 : n1 < B64 ^ 4) (h2 : n2 < B64 ^ 4) (h3 : n3 < B64 ^ 4) (T : TypeId) (fr : Nat × Nat) :
  zdg Tryz.prog 11 g10 (tabO T fr) [.agg (sgV c b1 n1 b2 n2 b3 n3).toArray] (.string (sb (tx33 c (zb b1 n1) (zb b2 n2) (zb b3 n3)))) := by
 have cI := znA c hc T fr
 have cW1 := zip b1 n1 h1 T fr
 have cW2 := zip b2 n2 h2 T fr
 have cW3 := zip b3 n3 h3 T fr
 have q0 := zbW (zjZ hc)
 have q1 := zbW (z := zb b1 n1) (by rw [zgA]; exact h1)
 have q2 := zbW (z := zb b2 n2) (by rw [zgA]; exact h2)
 have q3 := zbW (z := zb b3 n3) (by rw [zgA]; exact h3)
 have hj := zkX c (zb b1 n1) (zb b2 n2) (zb b3 n3)
 have cJ := zhv 9 [Lib.itoa c, Lib.itoa (zb b1 n1), Lib.itoa (zb b2 n2), Lib.itoa (zb b3 n3)] [32] (by simp) (by
  show (tx33 c (zb b1 n1) (zb b2 n2) (zb b3 n3)).length ≤ _
  rw [hj]
  simp only [List.length_append, List.length_cons, List.length_nil]
  omega)
 change zaq _ _ [.ow 0, .r (.v (.string ⟨#[32]⟩))] _ (.r (.v (.string (sb (tx33 c (zb b1 n1) (zb b2 n2) (zb b3 n3)))))) _ at cJ
 unfold wdVs txt at cW1 cW2 cW3
 unfold sgV
 refine zdg.of (Pure.ag Pure.nil) ?_
 generalize tabO T fr = o at *
 clear hj q0 q1 q2 q3
 generalize tx33 c (zb b1 n1) (zb b2 n2) (zb b3 n3) = R at *
 generalize Lib.itoa c = s0 at *
 generalize Lib.itoa (zb b1 n1) = s1 at *
 generalize Lib.itoa (zb b2 n2) = s2 at *
 generalize Lib.itoa (zb b3 n3) = s3 at *
 generalize ((n1 % B64 : Nat) : Int) = a0 at *
 generalize ((n1 / B64 % B64 : Nat) : Int) = a1 at *
 generalize ((n1 / B64 / B64 % B64 : Nat) : Int) = a2 at *
 generalize ((n1 / B64 / B64 / B64 % B64 : Nat) : Int) = a3 at *
 generalize ((n2 % B64 : Nat) : Int) = d0 at *
 generalize ((n2 / B64 % B64 : Nat) : Int) = d1 at *
 generalize ((n2 / B64 / B64 % B64 : Nat) : Int) = d2 at *
 generalize ((n2 / B64 / B64 / B64 % B64 : Nat) : Int) = d3 at *
 generalize ((n3 % B64 : Nat) : Int) = e0 at *
 generalize ((n3 / B64 % B64 : Nat) : Int) = e1 at *
 generalize ((n3 / B64 / B64 % B64 : Nat) : Int) = e2 at *
 generalize ((n3 / B64 / B64 / B64 % B64 : Nat) : Int) = e3 at *
 simp only [List.map_cons, List.map_nil]
 have hE : ([[.v (.string (sb s0))], [.v (.string (sb s1))], [.v (.string (sb s2))], [.v (.string (sb s3))]] : List (List RV)) = strs [s0, s1, s2, s3] := rfl
 refine zaw Tryz.func11 rfl (Nat.le_of_ble_eq_true rfl) rfl rfl ?_
 (repeat' (first | refine zao ?_ | ((refine is_f 23 ?_; refine zcw 0 (cI) zct (by kernel_rfl) rfl rfl zaa ?_); try dsimp only [AV.unfr, AV.unfrs, frsL, zaO, rdOf, @List.length_cons Blk, @List.length_nil Blk, @List.nil_append (Nat × Option Blk), @List.cons_append (Nat × Option Blk), @List.nil_append Blk, @List.cons_append Blk, Nat.add_zero, Nat.zero_add, Nat.reduceAdd]) | ((refine is_f 24 ?_; refine zcw 0 (cW1) zct (by kernel_rfl) rfl rfl zaa ?_); try dsimp only [AV.unfr, AV.unfrs, frsL, zaO, rdOf, @List.length_cons Blk, @List.length_nil Blk, @List.nil_append (Nat × Option Blk), @List.cons_append (Nat × Option Blk), @List.nil_append Blk, @List.cons_append Blk, Nat.add_zero, Nat.zero_add, Nat.reduceAdd]) | ((refine is_f 24 ?_; refine zcw 0 (cW2) zct (by kernel_rfl) rfl rfl zaa ?_); try dsimp only [AV.unfr, AV.unfrs, frsL, zaO, rdOf, @List.length_cons Blk, @List.length_nil Blk, @List.nil_append (Nat × Option Blk), @List.cons_append (Nat × Option Blk), @List.nil_append Blk, @List.cons_append Blk, Nat.add_zero, Nat.zero_add, Nat.reduceAdd]) | ((refine is_f 24 ?_; refine zcw 0 (cW3) zct (by kernel_rfl) rfl rfl zaa ?_); try dsimp only [AV.unfr, AV.unfrs, frsL, zaO, rdOf, @List.length_cons Blk, @List.length_nil Blk, @List.nil_append (Nat × Option Blk), @List.cons_append (Nat × Option Blk), @List.nil_append Blk, @List.cons_append Blk, Nat.add_zero, Nat.zero_add, Nat.reduceAdd]) | (refine is_f 22 ?_; refine zbI (cJ) ?_) | (refine zab (fun hb => ?_) (fun hb => ?_) <;> (try (exfalso; omega))) | fail))
 all_goals (first | (exfalso; omega) | exact zbC [] (.r _) rfl rfl (zaF rfl rfl) rfl)
theorem zf6 {a b c : List UInt8} {k : Nat} (h : a ++ b = c) (ha : a.length ≤ k) (hb : b.length ≤ 79) : c.length ≤ k + 79 := by rw [← h, List.length_append]; omega
theorem zfI (c : Int) (hc : I64 c) (b1 : Bool) (n1 : Nat) (b2 : Bool) (n2 : Nat) (b3 : Bool) (n3 : Nat) (h1 : n1 < B64 ^ 4) (h2 : n2 < B64 ^ 4) (h3 : n3 < B64 ^ 4) :
  zaq Tryz.prog 12 [.ag ((sgV c b1 n1 b2 n2 b3 n3).map fun x => .r (.v x))] [] (.r (.v (.string (sb (tx33 c (zb b1 n1) (zb b2 n2) (zb b3 n3)))))) [] := by
 have cO := znQ c hc
 have cI := zg2 (decide (c < 0)) c.natAbs (zjZ hc)
 rw [show zb (decide (c < 0)) c.natAbs = c by
  unfold zb
  by_cases h : c < 0
  ·rw [decide_eq_true h, if_pos rfl]; omega
  ·rw [decide_eq_false h, if_neg (by simp)]; omega] at cI
 have cW1 := zg2 b1 n1 h1
 have cW2 := zg2 b2 n2 h2
 have cW3 := zg2 b3 n3 h3
 have q0 := zbW (zjZ hc)
 have q1 := zbW (z := zb b1 n1) (by rw [zgA]; exact h1)
 have q2 := zbW (z := zb b2 n2) (by rw [zgA]; exact h2)
 have q3 := zbW (z := zb b3 n3) (by rw [zgA]; exact h3)
 have hj := zkX c (zb b1 n1) (zb b2 n2) (zb b3 n3)
 unfold wz wd at cO
 unfold wd txt at cI cW1 cW2 cW3
 unfold sgV
 generalize tx33 c (zb b1 n1) (zb b2 n2) (zb b3 n3) = R at *
 generalize Lib.itoa c = s0 at *
 generalize Lib.itoa (zb b1 n1) = s1 at *
 generalize Lib.itoa (zb b2 n2) = s2 at *
 generalize Lib.itoa (zb b3 n3) = s3 at *
 generalize decide (c < 0) = bc at *
 generalize ((c.natAbs % B64 : Nat) : Int) = f0 at *
 generalize ((c.natAbs / B64 % B64 : Nat) : Int) = f1 at *
 generalize ((c.natAbs / B64 / B64 % B64 : Nat) : Int) = f2 at *
 generalize ((c.natAbs / B64 / B64 / B64 % B64 : Nat) : Int) = f3 at *
 generalize ((n1 % B64 : Nat) : Int) = a0 at *
 generalize ((n1 / B64 % B64 : Nat) : Int) = a1 at *
 generalize ((n1 / B64 / B64 % B64 : Nat) : Int) = a2 at *
 generalize ((n1 / B64 / B64 / B64 % B64 : Nat) : Int) = a3 at *
 generalize ((n2 % B64 : Nat) : Int) = d0 at *
 generalize ((n2 / B64 % B64 : Nat) : Int) = d1 at *
 generalize ((n2 / B64 / B64 % B64 : Nat) : Int) = d2 at *
 generalize ((n2 / B64 / B64 / B64 % B64 : Nat) : Int) = d3 at *
 generalize ((n3 % B64 : Nat) : Int) = e0 at *
 generalize ((n3 / B64 % B64 : Nat) : Int) = e1 at *
 generalize ((n3 / B64 / B64 % B64 : Nat) : Int) = e2 at *
 generalize ((n3 / B64 / B64 / B64 % B64 : Nat) : Int) = e3 at *
 obtain ⟨x1, g1⟩ : ∃ x, s0 ++ [32] = x := ⟨_, rfl⟩
 obtain ⟨x2, g2⟩ : ∃ x, x1 ++ s1 = x := ⟨_, rfl⟩
 obtain ⟨x3, g3⟩ : ∃ x, x2 ++ [32] = x := ⟨_, rfl⟩
 obtain ⟨x4, g4⟩ : ∃ x, x3 ++ s2 = x := ⟨_, rfl⟩
 obtain ⟨x5, g5⟩ : ∃ x, x4 ++ [32] = x := ⟨_, rfl⟩
 rw [g1, g2, g3, g4, g5] at hj
 have g6 := hj.symm
 have l1 := zf6 g1 q0 (by simp)
 have l2 := zf6 g2 l1 q1
 have l3 := zf6 g3 l2 (by simp)
 have l4 := zf6 g4 l3 q2
 have l5 := zf6 g5 l4 (by simp)
 have l6 := zf6 g6 l5 q3
 have m1 : x1.length ≤ 9223372036854775807 := by omega
 have m2 : x2.length ≤ 9223372036854775807 := by omega
 have m3 : x3.length ≤ 9223372036854775807 := by omega
 have m4 : x4.length ≤ 9223372036854775807 := by omega
 have m5 : x5.length ≤ 9223372036854775807 := by omega
 have m6 : R.length ≤ 9223372036854775807 := by omega
 clear hj q0 q1 q2 q3 l1 l2 l3 l4 l5 l6 h1 h2 h3
 simp only [List.map_cons, List.map_nil]
 refine zaw Tryz.func12 rfl (Nat.le_of_ble_eq_true rfl) rfl rfl ?_
 (repeat' (first | (refine zbu ?_; refine za2 ?_; refine zag rfl zaa (zcs g1 m1 rfl rfl) ?_) | (refine zbu ?_; refine za2 ?_; refine zag rfl zaa (zcs g2 m2 rfl rfl) ?_) | (refine zbu ?_; refine za2 ?_; refine zag rfl zaa (zcs g3 m3 rfl rfl) ?_) | (refine zbu ?_; refine za2 ?_; refine zag rfl zaa (zcs g4 m4 rfl rfl) ?_) | (refine zbu ?_; refine za2 ?_; refine zag rfl zaa (zcs g5 m5 rfl rfl) ?_) | (refine zbu ?_; refine za2 ?_; refine zag rfl zaa (zcs g6 m6 rfl rfl) ?_) | refine zao ?_ | (refine is_f 18 ?_; refine zav (cO) ?_) | (refine is_f 25 ?_; refine zav (cI) ?_) | (refine is_f 25 ?_; refine zav (cW1) ?_) | (refine is_f 25 ?_; refine zav (cW2) ?_) | (refine is_f 25 ?_; refine zav (cW3) ?_) | (refine zab (fun hb => ?_) (fun hb => ?_) <;> (try (exfalso; omega))) | fail))
 all_goals (first | (exfalso; omega) | exact ret1 [] (.r _) rfl rfl rfl)
end Go.Proofs.YtpnbgalbdohfgaaGreatDoor
