/- Chapter 33: the library's functions of Text in the second layer. Conditions: small numbers. --ext6 -/
import Derived.Test.YtbndknhljkpijaaDoorSt3
import Derived.Test.YtbndknhljkpijaaDoorSh1
namespace Go.Proofs.YtbndknhljkpijaaDoor
open Go.RowKit Go.Ab Go.Wd
set_option maxRecDepth 100000
set_option linter.unusedVariables false
set_option linter.unusedSimpArgs false

/-- A contract of a function that only computes. -/
theorem meets_pure {f : FuncId} {x u : Value} (h : ∀ w, Calls Tryd.prog f #[x] w fun e w' => e = .returned u ∧ w' = w) : Meets Tryd.prog f [.r (.v x)] [] (.r (.v u)) [] := by
  intro w Z M k us hM hk hargs _ _
  simp only [AV.reps, AV.rep, RV.rep] at hargs
  obtain ⟨_, _, rfl, rfl, rfl⟩ := hargs
  exact (h w).mono fun e w' ⟨he, hw⟩ => ⟨u, he, Z, fun _ _ => rfl, by simp only [callSp, AV.unfr, AV.rep, RV.rep], fun i b h => by simp [callSp, numdP] at h, fun j b h => by simp [callSp, AV.unfr] at h, fun j j' x h => by simp [callSp, AV.unfr] at h, fun j x h => by simp [callSp, AV.unfr] at h, hw ▸ Go.Ab.Upto.refl _⟩
/-- The digits of a number, as a string. -/
def dgs (n : Nat) : ByteArray := ⟨(Lib.decDigits n).toArray⟩
theorem small_m (i : Nat) (h : i < 100) : Meets Tryd.prog 78 [.r (.v (.int .i64 (i : Int)))] [] (.r (.v (.string (dgs i)))) [] := meets_pure fun w => Tryd.internal_strconv_small i h w
theorem len64_m (x : Nat) (h : x < B64) : Meets Tryd.prog 82 [.r (.v (.int .u64 (x : Int)))] [] (.r (.v (.int .i64 ((Lib.bitLen x : Nat) : Int)))) [] := meets_pure fun w => by
  have := Tryd.bits_Len64 (x : Int) w (by omega) (by unfold B64 at h; omega)
  rwa [Int.toNat_natCast] at this
theorem formatInt_m (i : Nat) (h : i < 100) : Meets Tryd.prog 67 [.r (.v (.int .i64 (i : Int))), .r (.v (.int .i64 10))] [] (.r (.v (.string (dgs i)))) [] := by
  refine fn_of Tryd.func67 rfl (Nat.le_of_ble_eq_true rfl) rfl rfl ?_
  (repeat' (first | refine r_4eabd4 ?_ | (refine is_f 78 ?_; refine r_bb2b31 (small_m i h) ?_) | (refine r_48b933 (fun hb => ?_) (fun hb => ?_) <;> (try (exfalso; omega))) | (refine awp_cond rfl (fun hb => ?_) (fun hb => ?_) <;> (try simp only [Bool.not_eq_true', Bool.not_eq_false', decide_eq_true_eq, decide_eq_false_iff_not] at hb) <;> (try (exfalso; omega)))))
  all_goals (first | (exfalso; omega) | exact ret1 [] (.r _) rfl rfl rfl)
theorem itoa0_m (i : Nat) (h : i < 100) : Meets Tryd.prog 54 [.r (.v (.int .i64 (i : Int)))] [] (.r (.v (.string (dgs i)))) [] := by
  refine fn_of Tryd.func54 rfl (Nat.le_of_ble_eq_true rfl) rfl rfl ?_
  (repeat' (first | refine r_4eabd4 ?_ | (refine is_f 67 ?_; refine r_bb2b31 (formatInt_m i h) ?_) | (refine r_48b933 (fun hb => ?_) (fun hb => ?_) <;> (try (exfalso; omega))) | (refine awp_cond rfl (fun hb => ?_) (fun hb => ?_) <;> (try simp only [Bool.not_eq_true', Bool.not_eq_false', decide_eq_true_eq, decide_eq_false_iff_not] at hb) <;> (try (exfalso; omega)))))
  all_goals (first | (exfalso; omega) | exact ret1 [] (.r _) rfl rfl rfl)
theorem itoa_m (i : Nat) (h : i < 100) : Meets Tryd.prog 38 [.r (.v (.int .i64 (i : Int)))] [] (.r (.v (.string (dgs i)))) [] := by
  refine fn_of Tryd.func38 rfl (Nat.le_of_ble_eq_true rfl) rfl rfl ?_
  (repeat' (first | refine r_4eabd4 ?_ | (refine is_f 54 ?_; refine r_bb2b31 (itoa0_m i h) ?_) | (refine r_48b933 (fun hb => ?_) (fun hb => ?_) <;> (try (exfalso; omega))) | (refine awp_cond rfl (fun hb => ?_) (fun hb => ?_) <;> (try simp only [Bool.not_eq_true', Bool.not_eq_false', decide_eq_true_eq, decide_eq_false_iff_not] at hb) <;> (try (exfalso; omega)))))
  all_goals (first | (exfalso; omega) | exact ret1 [] (.r _) rfl rfl rfl)
theorem formatUint0_m (i : Nat) (h : i < 100) : Meets Tryd.prog 71 [.r (.v (.int .u64 (i : Int))), .r (.v (.int .i64 10))] [] (.r (.v (.string (dgs i)))) [] := by
  refine fn_of Tryd.func71 rfl (Nat.le_of_ble_eq_true rfl) rfl rfl ?_
  have hw : IntKind.i64.wrap (i : Int) = (i : Int) := by rw [IntKind.wrap_i64]; omega
  (repeat' (first | refine r_4eabd4 ?_ | (refine is_f 78 ?_; refine r_bb2b31 (small_m i h) ?_) | (refine r_48b933 (fun hb => ?_) (fun hb => ?_) <;> (try (exfalso; omega))) | (refine awp_cond rfl (fun hb => ?_) (fun hb => ?_) <;> (try simp only [Bool.not_eq_true', Bool.not_eq_false', decide_eq_true_eq, decide_eq_false_iff_not] at hb) <;> (try (exfalso; omega)))))
  all_goals (first | (exfalso; omega) | exact ret1 [] (.r _) rfl rfl rfl)
theorem formatUint_m (i : Nat) (h : i < 100) : Meets Tryd.prog 56 [.r (.v (.int .u64 (i : Int))), .r (.v (.int .i64 10))] [] (.r (.v (.string (dgs i)))) [] := by
  refine fn_of Tryd.func56 rfl (Nat.le_of_ble_eq_true rfl) rfl rfl ?_
  (repeat' (first | refine r_4eabd4 ?_ | (refine is_f 71 ?_; refine r_bb2b31 (formatUint0_m i h) ?_) | (refine r_48b933 (fun hb => ?_) (fun hb => ?_) <;> (try (exfalso; omega))) | (refine awp_cond rfl (fun hb => ?_) (fun hb => ?_) <;> (try simp only [Bool.not_eq_true', Bool.not_eq_false', decide_eq_true_eq, decide_eq_false_iff_not] at hb) <;> (try (exfalso; omega)))))
  all_goals (first | (exfalso; omega) | exact ret1 [] (.r _) rfl rfl rfl)
/-- The length of one word. -/
theorem length_m (x : Nat) (h0 : x ≠ 0) (h : x < B64) (hbl : Lib.bitLen x ≤ 64) : Meets Tryd.prog 68 [w4 x] [] (.r (.v (.int .i64 ((Lib.bitLen x : Nat) : Int)))) [] := by
  have h1 : x / B64 = 0 := by unfold B64 at *; omega
  have h2 : w4 x = .ag [.r (.v (.int .u64 (x : Int))), .r (.v (.int .u64 0)), .r (.v (.int .u64 0)), .r (.v (.int .u64 0))] := by
    unfold w4; rw [h1, Nat.mod_eq_of_lt h]; rfl
  rw [h2]
  have cL := len64_m x h
  generalize Lib.bitLen x = y at *
  refine fn_of Tryd.func68 rfl (Nat.le_of_ble_eq_true rfl) rfl rfl ?_
  (repeat' (first | refine r_4eabd4 ?_ | (refine r_48b933 (fun hb => ?_) (fun hb => ?_) <;> (try (exfalso; omega))) | (refine awp_cond rfl (fun hb => ?_) (fun hb => ?_) <;> (try simp only [Bool.not_eq_true', Bool.not_eq_false', decide_eq_true_eq, decide_eq_false_iff_not] at hb) <;> (try (exfalso; omega)))))
  refine awp_loop' (fun j : Nat => ⟨[(1, .pt 0 0), (3, .r (.v (.int .i64 (j : Int))))], [(0, some (.var 29 [.r (.v (.int .u64 (x : Int))), .r (.v (.int .u64 0)), .r (.v (.int .u64 0)), .r (.v (.int .u64 0))]))], 1⟩) (fun j => j ≤ 3) (fun j => j) 3 (Nat.le_refl _) (by (refine Le.mk [] [] q_5ec36 q_43730 q_16bb5 q_509a2)) fun j hj => ?_
  have hj : j ≤ 3 := hj
  have hcase : j = 0 ∨ j = 1 ∨ j = 2 ∨ j = 3 := by omega
  have hw0 : IntKind.i64.wrap (0 + (y : Int)) = (y : Int) := by rw [IntKind.wrap_i64]; omega
  rcases hcase with rfl | rfl | rfl | rfl
  · (repeat' (first | refine r_4eabd4 ?_ | (refine is_f 82 ?_; refine r_bb2b31 (cL) ?_) | (refine r_48b933 (fun hb => ?_) (fun hb => ?_) <;> (try (exfalso; omega))) | (refine awp_cond rfl (fun hb => ?_) (fun hb => ?_) <;> (try simp only [Bool.not_eq_true', Bool.not_eq_false', decide_eq_true_eq, decide_eq_false_iff_not] at hb) <;> (try (exfalso; omega)))))
    all_goals (first | (exfalso; omega) | exact ret1 [] (.int (by omega)) rfl rfl rfl)
  · (repeat' (first | refine r_4eabd4 ?_ | (refine r_48b933 (fun hb => ?_) (fun hb => ?_) <;> (try (exfalso; omega))) | (refine awp_cond rfl (fun hb => ?_) (fun hb => ?_) <;> (try simp only [Bool.not_eq_true', Bool.not_eq_false', decide_eq_true_eq, decide_eq_false_iff_not] at hb) <;> (try (exfalso; omega)))))
    all_goals (first | (exfalso; omega) | exact ⟨0, by omega, by (refine Le.mk [] [] q_5ec36 q_43730 q_16bb5 q_509a2), by omega⟩)
  · (repeat' (first | refine r_4eabd4 ?_ | (refine r_48b933 (fun hb => ?_) (fun hb => ?_) <;> (try (exfalso; omega))) | (refine awp_cond rfl (fun hb => ?_) (fun hb => ?_) <;> (try simp only [Bool.not_eq_true', Bool.not_eq_false', decide_eq_true_eq, decide_eq_false_iff_not] at hb) <;> (try (exfalso; omega)))))
    all_goals (first | (exfalso; omega) | exact ⟨1, by omega, by (refine Le.mk [] [] q_5ec36 q_43730 q_16bb5 q_509a2), by omega⟩)
  · (repeat' (first | refine r_4eabd4 ?_ | (refine r_48b933 (fun hb => ?_) (fun hb => ?_) <;> (try (exfalso; omega))) | (refine awp_cond rfl (fun hb => ?_) (fun hb => ?_) <;> (try simp only [Bool.not_eq_true', Bool.not_eq_false', decide_eq_true_eq, decide_eq_false_iff_not] at hb) <;> (try (exfalso; omega)))))
    all_goals (first | (exfalso; omega) | exact ⟨2, by omega, by (refine Le.mk [] [] q_5ec36 q_43730 q_16bb5 q_509a2), by omega⟩)
/-- Two results, both in variables. -/
theorem ret2cc {post : List (Option Blk)} {P : Program} {L : Ln} {fn : Func} {S : St} {r s : AV} {cs ds : List AV} {p q ty ty' i j n n' : Nat} {T T' : TypeId} {F F' : List Nat} [hT : AgT P ty n] [hT' : AgT P ty' n'] (G : List Nat) (hrt : Rt (getH S.H) L.n G (.ag cs) r F) (hrs : Rt (getH S.H) L.n G (.ag ds) s F') (hres : fn.results = #[.cell p ty, .cell q ty']) (hp : get S.env p = .pt i 0) (hi : getH S.H i = some (.var T cs)) (hl : cs.length = n) (hq : get S.env q = .pt j 0) (hj : getH S.H j = some (.var T' ds)) (hl' : ds.length = n')
    (hpo : ∀ i b, (i, some b) ∈ numdP 0 post → getH S.H i = some b ∧ b.ids = []) (hn : retNums L (F ++ (F' ++ [])) G = true) : (Exit.ret = .normal ∨ Exit.ret = .ret) ∧ RetOk P L fn S (.tu [r, s]) post := by
  obtain ⟨d, h1, h2⟩ := hT.und
  obtain ⟨d', h3, h4⟩ := hT'.und
  refine ⟨.inr rfl, ⟨⟨.tu [.ag cs, .ag ds], _, G, .two _ _ _ _ hres (.agg _ _ _ _ _ _ hp hi h1 h2 ?_) (.agg _ _ _ _ _ _ hq hj h3 h4 ?_), .tu _ _ _ (.cons _ _ _ _ _ _ hrt (.cons _ _ _ _ _ _ hrs .nil)), hn⟩, hpo⟩⟩
  · rw [hT.size, hl]
  · rw [hT'.size, hl']
/-- A quotient by a longer number. -/
theorem div_m (x y : Nat) (hx : x ≠ 0) (hxB : x < B64) (hy : y ≠ 0) (hyB : y < B64) (hl : Lib.bitLen x < Lib.bitLen y) (hl2 : Lib.bitLen y ≤ 64) : Meets Tryd.prog 55 [w4 x, w4 y] [] (.tu [w4 0, w4 x]) [] := by
  have c1 := length_m x hx hxB (by omega)
  have c2 := length_m y hy hyB hl2
  generalize Lib.bitLen x = a at *
  generalize Lib.bitLen y = b at *
  have hw : IntKind.i64.wrap ((a : Int) - (b : Int)) = (a : Int) - (b : Int) := by rw [IntKind.wrap_i64]; omega
  refine fn_of Tryd.func55 rfl (Nat.le_of_ble_eq_true rfl) rfl rfl ?_
  (repeat' (first | (first | refine awp_halt 4 ?_ | refine awp_haltR 4 ?_) | refine r_ceea32 ?_ | refine r_d3423f ?_ | (refine is_f 68 ?_; refine r_bb2b31 (c1) ?_) | (refine is_f 68 ?_; refine r_bb2b31 (c2) ?_) | (refine r_48b933 (fun hb => ?_) (fun hb => ?_) <;> (try (exfalso; omega))) | (refine awp_cond rfl (fun hb => ?_) (fun hb => ?_) <;> (try simp only [Bool.not_eq_true', Bool.not_eq_false', decide_eq_true_eq, decide_eq_false_iff_not] at hb) <;> (try (exfalso; omega)))))
  all_goals (first | (exfalso; omega) | exact ret2cc [] (Rt.w4 0) (Rt.w4 x) rfl rfl rfl rfl rfl rfl rfl (post_none rfl) rfl)
theorem reverse1_raw (A : Option Addr) (c : Nat) (w : World) : Calls Tryd.prog 58 #[.slice A 1 c] w fun e w' => e = .returned (.tuple #[]) ∧ w' = w := by
  go_enter Tryd.func58, Tryd.ntmps58
  go_wp2
  go_loop [2, 3] (fun i j => i = .int .i64 0 ∧ j = .int .i64 0) (fun _ _ => 0)
  case atStart => exact ⟨rfl, rfl⟩
  case round =>
    obtain ⟨rfl, rfl⟩ := hrel
    go_wp2
    exact ⟨rfl, _, results_none rfl _ _ _, rfl, rfl⟩
theorem reverse1_m (s : ByteArray) : Meets Tryd.prog 58 [.ow 0] [.row 9 1 [[.v (.string s)]]] (.tu []) [some (.row 9 1 [[.v (.string s)]])] := by
  intro w Z M K us hM hK hargs hpre _
  obtain ⟨g1, g2⟩ := hpre 0 (.row 9 1 [[.v (.string s)]]) (by simp [numd])
  obtain ⟨A, c, hz⟩ := held_len g1
  simp only [AV.reps, AV.rep] at hargs
  obtain ⟨_, _, rfl, rfl, rfl⟩ := hargs
  rw [hz]
  exact (reverse1_raw A c w).mono fun e w' ⟨he, hw⟩ => ⟨_, he, Z, fun _ _ => rfl, by simp only [callSp, AV.unfr, AV.unfrs, AV.rep, AV.reps]; exact ⟨#[], rfl, rfl⟩, fun i b h => by
    simp only [callSp, numdP, List.mem_cons, List.not_mem_nil, or_false, Prod.mk.injEq, Option.some.injEq] at h
    obtain ⟨rfl, rfl⟩ := h
    subst hw
    refine g1.anti fun q _ hq => ?_
    rcases hq with h0 | ⟨j, hj, _⟩
    · exact h0
    · simp [callSp, AV.unfr, AV.unfrs] at hj, fun j b h => by simp [callSp, AV.unfr, AV.unfrs] at h, fun j j' x h => by simp [callSp, AV.unfr, AV.unfrs] at h, fun j x h => by simp [callSp, AV.unfr, AV.unfrs] at h, hw ▸ Go.Ab.Upto.refl _⟩
/-- Strings as elements of a slice. -/
def strs (l : List ByteArray) : List (List RV) := l.map fun s => [.v (.string s)]
theorem strs_vals {B : Nat → Prop} {w : World} : ∀ (l : List ByteArray) (us : List Value), RVs B w (strs l).flatten us → us = l.map Value.string
  | [], us, h => by cases h; rfl
  | x :: l, us, h => by
    rw [strs, List.map_cons, List.flatten_cons] at h
    cases h with
    | cons h1 h2 h3 =>
      rw [RV.rep] at h2
      rw [List.map_cons, h2, strs_vals l _ h3]
theorem join33_m (l : List ByteArray) (sep : ByteArray) (hne : l ≠ []) (hN : l.length ≤ 1000) (hlen : (Lib.join (l.map (·.data.toList)) sep.data.toList).length ≤ 140737488355328) : Meets Tryd.prog 37 [.ow 0, .r (.v (.string sep))] [.row 9 1 (strs l)] (.r (.v (.string ⟨(Lib.join (l.map (·.data.toList)) sep.data.toList).toArray⟩))) [some (.row 9 1 (strs l))] := by
  intro w Z M K us hM hK hargs hpre _
  obtain ⟨g1, g2⟩ := hpre 0 (.row 9 1 (strs l)) (by simp [numd])
  have g1' := g1
  obtain ⟨vs, ⟨o1, o2⟩, k2, k3⟩ := g1
  have hsl : (strs l).length = l.length := by simp [strs]
  have hv := strs_vals l vs k2
  have hpos : 0 < l.length := List.length_pos_iff.2 hne
  rcases o2 with ⟨_, e4⟩ | ⟨g, cap, cur, e3, e4, e5, e6, e7, e8, e9⟩
  · omega
  simp only [AV.reps, AV.rep, RV.rep] at hargs
  obtain ⟨_, _, rfl, rfl, _, _, rfl, rfl, rfl⟩ := hargs
  rw [e3, hsl]
  have hcells : ∀ (j : Nat) x, l[j]? = some x → w.cell? ⟨g, 0 + j, none⟩ = some (.string x) := by
    intro j x hj
    rw [Nat.zero_add, cell_of_row w g j cur 9 (0, 0) e5]
    have : vs[j]? = some (.string x) := by rw [hv]; simp [hj]
    rw [← e9, List.getElem?_take] at this
    split at this
    · simpa using this
    · cases this
  exact (Tryd.strings_Join g 0 cap l sep w hcells (heap_lt e5) (by omega) (by omega) hlen).mono fun e w' ⟨he, hb⟩ => ⟨_, he, Z, fun _ _ => rfl, by simp only [callSp, AV.unfr, AV.rep, RV.rep], fun i b h => by
    simp only [callSp, numdP, List.mem_cons, List.not_mem_nil, or_false, Prod.mk.injEq, Option.some.injEq] at h
    obtain ⟨rfl, rfl⟩ := h
    refine g1'.keep (Go.Ab.Upto.of_below hb) (fun q _ hq => ?_) rfl (fun _ _ => rfl) (fun x hx => hb.block x (g1'.lt hx))
    rcases hq with h0 | ⟨j, hj, _⟩
    · exact h0
    · simp [callSp, AV.unfr] at hj, fun j b h => by simp [callSp, AV.unfr] at h, fun j j' x h => by simp [callSp, AV.unfr] at h, fun j x h => by simp [callSp, AV.unfr] at h, Go.Ab.Upto.of_below hb⟩
end Go.Proofs.YtbndknhljkpijaaDoor
