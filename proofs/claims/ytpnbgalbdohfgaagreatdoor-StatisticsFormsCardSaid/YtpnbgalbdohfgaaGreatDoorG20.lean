/- Texts of the second layer in one: Tx1 Tx3 Tx5 Dv0. -/
import Derived.Test.YtpnbgalbdohfgaaGreatDoorG6
import Derived.Test.YtpnbgalbdohfgaaGreatDoorG19
import Derived.Test.YtpnbgalbdohfgaaGreatDoorSh
import Derived.Lib.AppendIntMem
import Derived.Laws.IdiomStrings
import Derived.WalkKit
import Derived.Test.YtpnbgalbdohfgaaGreatDoorG16
import Derived.Test.YtpnbgalbdohfgaaGreatDoorG14
set_option maxRecDepth 100000
set_option linter.unusedVariables false
set_option linter.unusedSimpArgs false
namespace Go.Ab
open Go.RowKit Go.Proofs.YtpnbgalbdohfgaaGreatDoor
def zdg (P : Program) (f : FuncId) (g : Nat) (o : Obj) (vs : List Value) (x : Value) : Prop := ∀ w, w.heap[g]? = some o → Calls P f vs.toArray w fun e w' => e = .returned x ∧ Below w.heap.size w w'
structure Pure (ds : List AV) (vs : List Value) : Prop where
 fwd : ∀ Z B w, AV.reps Z B w ds vs
 of : ∀ Z B w us, AV.reps Z B w ds us → us = vs
theorem Pure.nil : Pure [] [] := ⟨fun _ _ _ => rfl, fun _ _ _ us h => h⟩
theorem Pure.cons {c : AV} {u : Value} {ds : List AV} {vs : List Value} (h1 : ∀ Z B w, AV.rep Z B w c u) (h2 : ∀ Z B w v, AV.rep Z B w c v → v = u) (h : Pure ds vs) : Pure (c :: ds) (u :: vs) :=
 ⟨fun Z B w => ⟨u, vs, rfl, h1 Z B w, h.fwd Z B w⟩, fun Z B w us hu => by
  rw [AV.reps] at hu
  obtain ⟨v, us', rfl, g1, g2⟩ := hu
  rw [h2 Z B w v g1, h.of Z B w us' g2]⟩
theorem Pure.v {x : Value} {ds : List AV} {vs : List Value} (h : Pure ds vs) : Pure (.r (.v x) :: ds) (x :: vs) :=
 .cons (fun _ _ _ => by rw [AV.rep, RV.rep]) (fun _ _ _ v h => by rwa [AV.rep, RV.rep] at h) h
theorem Pure.ag {l vs : List Value} {ds : List AV} (h : Pure ds vs) : Pure (.ag (l.map fun x => .r (.v x)) :: ds) (.agg l.toArray :: vs) := by
 refine .cons (fun Z B w => ?_) (fun Z B w v hv => ?_) h
 ·rw [AV.rep]
  refine ⟨l.toArray, rfl, ?_⟩
  show AV.reps Z B w _ l
  clear h
  induction l with
  | nil => rfl
  | cons a l ih => exact ⟨a, l, rfl, by rw [AV.rep, RV.rep], ih⟩
 ·rw [AV.rep] at hv
  obtain ⟨us, rfl, h1⟩ := hv
  have : us.toList = l := by
   revert h1
   generalize us.toList = ys
   clear h
   induction l generalizing ys with
   | nil => intro h; exact h
   | cons a l ih =>
    intro h
    rw [List.map_cons, AV.reps] at h
    obtain ⟨u, us', rfl, g1, g2⟩ := h
    rw [AV.rep, RV.rep] at g1
    rw [g1, ih us' g2]
  rw [← this]
theorem zdg.of {P : Program} {f : FuncId} {g : Nat} {o : Obj} {ds : List AV} {vs : List Value} {x : Value} (hp : Pure ds vs) (h : zaq P f ds [.gl g o] (.r (.v x)) [some (.gl g o)]) : zdg P f g o vs x :=
 fun w hw => zhm h hw (hp.fwd _ _ _)
theorem Pure.agc {cs : List AV} {l vs : List Value} {ds : List AV} (e : cs = l.map fun x => .r (.v x)) (h : Pure ds vs) : Pure (.ag cs :: ds) (.agg l.toArray :: vs) := e ▸ .ag h
section
variable {P : Program} {L : Ln} {N : Nat} {ops : Array Oper} {chk : List (Nat × Sp) → Bool} {Q : St → Prop} {l : List Oper} {E : List (Nat × AV)} {H : List (Nat × Option Blk)} {n : Nat} {tr : List (Nat × Sp)}
variable {d : Nat} {ty : TypeId} {pos : String} {af : Array Edge} {g : Option (Nat × Bool)}
theorem zcw {f : FuncId} {xs : Array Operand} {ats : Array TypeId} {vs : List Value} {x : Value} (i : Nat) {q : Nat} {o : Obj} (hm : zdg P f q o vs x) (hp : Pure (xs.toList.map (evA (get E))) vs) (hf : zfg P f = true) (hi : getH H i = some (.gl q o))
  (hd : Nat.blt d N = true) (hg : zbw ops (get E) ⟨some d, .call { callee := .value (.func f), args := xs, argTypes := ats }, ty, pos, af, g⟩ true)
  (h : wpA P L N ops chk Q l ⟨(d, .r (.v x)) :: E, H, n⟩ ((n, ⟨true, [(i, .gl q o)], .r (.v x), [], []⟩) :: tr)) :
  wpA P L N ops chk Q (⟨some d, .call { callee := .value (.func f), args := xs, argTypes := ats }, ty, pos, af, g⟩ :: l) ⟨E, H, n⟩ tr := by
 refine ⟨⟨true, [(i, .gl q o)], .r (.v x), [], []⟩, ⟨fun x hx => ?_, hg, fun _ a w Z M hM hr hh hdist => ?_, (fun h => by cases h), fun D hD hDH hfree => ?_⟩, h⟩
 ·injection hx with hx; subst hx; exact zbr.1 hd
 ·have hr' : ∀ x ∈ xs.toList, (evA (get E) x).rep Z M w (a.eval x) := fun x hx => hr x (by show x ∈ (#[Operand.func f] ++ xs).toList; rw [Array.toList_append]; exact List.mem_append_right _ hx)
  have hreps : AV.reps Z M w (xs.toList.map (evA (get E))) (xs.toList.map a.eval) := by
   revert hr'
   generalize xs.toList = ys
   intro hr'
   induction ys with
   | nil => rw [List.map_nil, AV.reps]; rfl
   | cons y ys ih => rw [List.map_cons, List.map_cons, AV.reps]; exact ⟨_, _, rfl, hr' y (by simp), ih fun x hx => hr' x (by simp [hx])⟩
  have hu := hp.of Z M w _ hreps
  have hw : w.heap[q]? = some o := (hh i (.gl q o) (by simp)).1.2
  refine zcJ (zec hf a w) ?_
  have he : (xs.toList.map a.eval).toArray = xs.map a.eval := by rw [← Array.toList_map]
  rw [← he, hu]
  exact (hm w hw).mono fun e w' ⟨h1, h2⟩ => ⟨x, h1, Z, fun _ _ => rfl, by rw [AV.rep, RV.rep], fun i b h => by simp at h, fun j b h => by simp at h, fun j j' x h => by simp at h, fun j x h => by simp at h, Go.Ab.Upto.of_below h2⟩
 ·exact ⟨fun i' b hb => by simp only [List.mem_cons, List.not_mem_nil, or_false, Prod.mk.injEq] at hb; obtain ⟨rfl, rfl⟩ := hb; exact hi, fun i o h => by simp at h, fun i o h => by simp at h, fun i h => by simp at h, hfree, fun i hi => by simp [AV.ids] at hi, fun b hb i hi => by simp at hb, fun i b h => by simp at h⟩
end
end Go.Ab
namespace Go.Proofs.YtpnbgalbdohfgaaGreatDoor
open Go.RowKit Go.Ab Go.Sort
noncomputable def g10 : Nat := (Tryz.prog.globalNamed "internal/strconv.uint64pow10").getD 0
theorem zjX : Tryz.prog.globalNamed "internal/strconv.uint64pow10" = some g10 := by kernel_rfl
def tabO (T : TypeId) (fr : Nat × Nat) : Obj := .cells (Lib.pow10Tab.map fun z => Value.int .u64 z).toArray T fr
theorem zma {w : World} {T : TypeId} {fr : Nat × Nat} (h : w.heap[g10]? = some (tabO T fr)) : Lib.TabIs Tryz.prog w "internal/strconv.uint64pow10" .u64 Lib.pow10Tab := by
 unfold Lib.TabIs World.var?
 rw [zjX]
 simp only [Option.bind_some, h]
 rfl
theorem znU {w : World} (h : Lib.TabIs Tryz.prog w "internal/strconv.uint64pow10" .u64 Lib.pow10Tab) : ∃ T fr, w.heap[g10]? = some (tabO T fr) := by
 unfold Lib.TabIs World.var? at h
 rw [zjX] at h
 simp only [Option.bind_some] at h
 split at h
 ·rename_i cs T fr e
  injection h with h
  subst h
  exact ⟨T, fr, e⟩
 ·cases h
theorem zfo (u : Nat) (h100 : 100 ≤ u) (hu64 : u < 18446744073709551616) (w : World) (htab : Lib.TabIs Tryz.prog w "internal/strconv.uint64pow10" .u64 Lib.pow10Tab) :
  Calls Tryz.prog 71 #[.int .u64 (u : Int), .int .i64 10] w fun e w' => e = .returned (.string (sb (Lib.decDigits u))) ∧ Below w.heap.size w w' := by
 have hu1 : 1 ≤ u := by omega
 have hnd20 : Lib.nDigits u ≤ 20 := by have := Lib.numDigits_eq u hu1 hu64; split at this <;> omega
 have hal : Tryz.prog.arrayLen 121 = 24 := by kernel_rfl
 have hsl : ∀ W, (Instr.sliceAt 121 (.pointer (some ⟨w.heap.size, 0, none⟩)) none (some (.int .i64 (Lib.nDigits u : Int))) none).run Tryz.prog W = .ok (.slice (some ⟨w.heap.size, 0, none⟩) (Lib.nDigits u) 24) W := fun W => by
  rw [run_sliceAt_array_h W 121 ⟨w.heap.size, 0, none⟩ (by kernel_rfl) .i64 (Lib.nDigits u : Int) (by omega) (by rw [hal]; omega)]
  rw [hal]
  go_simp
 have hH0 := Lib.holds_zero0 w 121 (Lib.nDigits u) (by omega)
 have hfmt := Tryz.internal_strconv_formatBase10 w.heap.size 0 24 u (Array.replicate (Lib.nDigits u) 0) (w.alloc (.cells Lib.zeros24 121)) hH0 (by rw [Array.size_replicate]; exact Lib.lt_pow_nDigits u) hu64 (by rw [Array.size_replicate]; omega)
 rw [Array.size_replicate] at hfmt
 have HH0 := Lib.hid hH0
 have iu : ¬ (u : Int) < 100 := by omega
 clear hH0 hal
 go_enter Tryz.func71, Tryz.ntmps71
 go_wp2_with fail
 refine (Tryz.internal_strconv_numDigits u hu1 hu64 _ (Lib.tabIs_alloc htab _)).mono ?_
 rintro e w' ⟨rfl, rfl⟩
 go_wp2_with fail
 refine hfmt.mono ?_
 rintro e w' ⟨rfl, k, v', dk, rfl, hF⟩
 have hcv : (convert 73 9 (.slice (some ⟨w.heap.size, 0, none⟩) (Lib.nDigits u) 24)).run Tryz.prog ((putRow (fun (b : UInt8) => Value.int .u8 (b.toNat : Int)) (w.alloc (.cells Lib.zeros24 121)) w.heap.size 0 dk).drewN k) = .ok (.string ⟨(Lib.decDigits u).toArray⟩) ((putRow (fun (b : UInt8) => Value.int .u8 (b.toNat : Int)) (w.alloc (.cells Lib.zeros24 121)) w.heap.size 0 dk).drewN k) := by
  have h := run_convert_bytes_back (P := Tryz.prog) ((putRow (fun (b : UInt8) => Value.int .u8 (b.toNat : Int)) (w.alloc (.cells Lib.zeros24 121)) w.heap.size 0 dk).drewN k) 73 9 5 ⟨w.heap.size, 0, none⟩ 24 (Lib.decDigits u) (by kernel_rfl) (by kernel_rfl) (by kernel_rfl) (fun j hj => by
   rw [Lib.row_is_numeral hF j hj, Lib.add_plain, World.cell?_drewN]
   exact cell?_putRow (fun (b : UInt8) => Value.int .u8 (b.toNat : Int)) _ w.heap.size 0 _ dk HH0.out (by rw [hF.size, Array.size_replicate]) j (by rw [hF.size]; rw [Lib.decDigits_length] at hj; exact hj))
  rw [Lib.decDigits_length] at h
  exact h
 go_wp2
 go_ret
 obtain ⟨os, eo⟩ := Lib.fin_at w (.cells Lib.zeros24 121) dk k 0
 exact ⟨rfl, by rw [eo]; exact Lib.below_grow _ _ (Nat.le_refl _) k os⟩
end Go.Proofs.YtpnbgalbdohfgaaGreatDoor
namespace Go.Proofs.YtpnbgalbdohfgaaGreatDoor
open Go.RowKit Go.Ab Go.Wd
theorem zlK (i : Nat) (h : i < 100) : zaq Tryz.prog 88 [.r (.v (.int .i64 (i : Int)))] [] (.r (.v (.string (sb (Lib.decDigits i))))) [] := zdX fun w => Tryz.internal_strconv_small i h w
theorem zgJ (i : Nat) (h : i < 100) : zaq Tryz.prog 71 [.r (.v (.int .u64 (i : Int))), .r (.v (.int .i64 10))] [] (.r (.v (.string (sb (Lib.decDigits i))))) [] := by
 have cS := zlK i h
 generalize sb (Lib.decDigits i) = s at *
 refine zaw Tryz.func71 rfl (Nat.le_of_ble_eq_true rfl) rfl rfl ?_
 have hw : IntKind.i64.wrap (i : Int) = (i : Int) := by rw [IntKind.wrap_i64]; omega
 (repeat' (first | refine zao ?_ | (refine is_f 88 ?_; refine zav (cS) ?_) | (refine zab (fun hb => ?_) (fun hb => ?_) <;> (try (exfalso; omega))) | fail))
 all_goals (first | (exfalso; omega) | exact ret1 [] (.r _) rfl rfl rfl)
theorem zgI (u : Nat) (hu : u < B64) (T : TypeId) (fr : Nat × Nat) : zdg Tryz.prog 71 g10 (tabO T fr) [.int .u64 (u : Int), .int .i64 10] (.string (sb (Lib.decDigits u))) := by
 intro w hw
 rcases Nat.lt_or_ge u 100 with h | h
 ·exact zk7 (zgJ u h) ((Pure.v (Pure.v Pure.nil)).fwd _ _ _)
 ·exact zfo u h (by unfold B64 at hu; exact hu) w (zma hw)
theorem zht (u : Nat) (hu : u < B64) (T : TypeId) (fr : Nat × Nat) : zdg Tryz.prog 45 g10 (tabO T fr) [.int .u64 (u : Int), .int .i64 10] (.string (sb (Lib.decDigits u))) := by
 have cF := zgI u hu T fr
 generalize sb (Lib.decDigits u) = s at *
 refine zdg.of (Pure.v (Pure.v Pure.nil)) ?_
 refine zaw Tryz.func45 rfl (Nat.le_of_ble_eq_true rfl) rfl rfl ?_
 (repeat' (first | refine zao ?_ | ((refine is_f 71 ?_; refine zcw 0 (cF) zct (by kernel_rfl) rfl rfl zaa ?_); try dsimp only [AV.unfr, AV.unfrs, frsL, zaO, rdOf, @List.length_cons Blk, @List.length_nil Blk, @List.nil_append (Nat × Option Blk), @List.cons_append (Nat × Option Blk), @List.nil_append Blk, @List.cons_append Blk, Nat.add_zero, Nat.zero_add, Nat.reduceAdd]) | (refine zab (fun hb => ?_) (fun hb => ?_) <;> (try (exfalso; omega))) | fail))
 all_goals (first | (exfalso; omega) | exact zbC [] (.r _) rfl rfl (zaF rfl rfl) rfl)
theorem znA (z : Int) (hz : I64 z) (T : TypeId) (fr : Nat × Nat) : zdg Tryz.prog 23 g10 (tabO T fr) [.int .i64 z] (.string (sb (Lib.itoa z))) := by
 intro w hw
 refine (Tryz.strconv_Itoa z hz.1 (by have := hz.2; omega) w (zma hw)).mono ?_
 rintro e w' ⟨rfl, k, os, rfl⟩
 exact ⟨rfl, Lib.below_grow _ _ (Nat.le_refl _) k os⟩
def W32 : Nat := 4294967296
theorem zmh : W32 = 4294967296 := rfl
def KI (a b u n q rh : Nat) : Prop := q * a + rh = u ∧ (u * W32 + n) / (a * W32 + b) ≤ q ∧ rh < W32
structure KP (a b u n : Nat) : Prop where
 a1 : W32 ≤ 2 * a
 a2 : a < W32
 hb : b < W32
 hn : n < W32
 hu : u < a * W32 + b
theorem KP.pos {a b u n : Nat} (h : KP a b u n) : 0 < a * W32 + b := by have := h.hu; omega
theorem KP.q {a b u n : Nat} (h : KP a b u n) : (u * W32 + n) / (a * W32 + b) < W32 := by
 rw [Nat.div_lt_iff_lt_mul h.pos, Nat.mul_comm W32]
 have h1 := h.hu
 have h2 := h.hn
 generalize a * W32 + b = y at *
 have : (u + 1) * W32 ≤ y * W32 := Nat.mul_le_mul h1 (Nat.le_refl _)
 rw [Nat.add_mul] at this
 omega
theorem zj5 {a b u n : Nat} (h : KP a b u n) : KI a b u n (u / a) (u % a) := by
 have ha : 0 < a := by have := h.a1; rw [zmh] at this; omega
 refine ⟨by rw [Nat.mul_comm]; exact Nat.div_add_mod u a, ?_, Nat.lt_trans (Nat.mod_lt _ ha) h.a2⟩
 rw [Nat.le_div_iff_mul_le ha]
 have h1 := Nat.div_mul_le_self (u * W32 + n) (a * W32 + b)
 generalize (u * W32 + n) / (a * W32 + b) = q at *
 have h2 : q * a * W32 ≤ q * (a * W32 + b) := by rw [Nat.mul_add, ← Nat.mul_assoc]; omega
 have h3 : q * a * W32 < (u + 1) * W32 := by rw [Nat.add_mul]; have := h.hn; omega
 have := Nat.lt_of_mul_lt_mul_right h3
 omega
theorem znD {a b u n q rh : Nat} (h : KP a b u n) (h1 : q * a + rh = u) (h2 : q * b ≤ W32 * rh + n) : q ≤ (u * W32 + n) / (a * W32 + b) := by
 rw [Nat.le_div_iff_mul_le h.pos, Nat.mul_add, ← h1, Nat.add_mul, ← Nat.mul_assoc, Nat.mul_comm rh]
 omega
theorem zj7 {a b u n q rh : Nat} (h : KP a b u n) (hi : KI a b u n q rh) (h2 : q * b ≤ W32 * rh + n) : q = (u * W32 + n) / (a * W32 + b) :=
 Nat.le_antisymm (znD h hi.1 h2) hi.2.1
theorem zle {a b u n q rh : Nat} (h : KP a b u n) (hi : KI a b u n q rh) (hc : W32 ≤ q ∨ W32 * rh + n < q * b) : 1 ≤ q ∧ (q - 1) * a + (rh + a) = u ∧ (u * W32 + n) / (a * W32 + b) ≤ q - 1 := by
 obtain ⟨i1, i2, i3⟩ := hi
 have hlt : (u * W32 + n) / (a * W32 + b) < q := by
  rcases hc with hc | hc
  ·exact Nat.lt_of_lt_of_le h.q hc
  ·rw [Nat.div_lt_iff_lt_mul h.pos, Nat.mul_add, ← i1, Nat.add_mul, ← Nat.mul_assoc, Nat.mul_comm rh]
   omega
 generalize (u * W32 + n) / (a * W32 + b) = Q at *
 have hq : 1 ≤ q := by omega
 refine ⟨hq, ?_, by omega⟩
 obtain ⟨q, rfl⟩ : ∃ m, q = m + 1 := ⟨q - 1, by omega⟩
 rw [Nat.add_sub_cancel, ← i1, Nat.add_mul]; omega
theorem ziD {a b u n q rh : Nat} (h : KP a b u n) (h1 : q * a + rh = u) (h2 : (u * W32 + n) / (a * W32 + b) ≤ q) (h3 : W32 ≤ rh) : q = (u * W32 + n) / (a * W32 + b) := by
 refine Nat.le_antisymm (znD h h1 ?_) h2
 have hu := h.hu
 have hb := h.hb
 have hq : q < W32 := by
  have : q * a < W32 * a := by rw [Nat.mul_comm W32]; omega
  exact Nat.lt_of_mul_lt_mul_right this
 have e1 : q * b ≤ W32 * W32 := Nat.mul_le_mul (Nat.le_of_lt hq) (Nat.le_of_lt hb)
 have e2 : W32 * W32 ≤ W32 * rh := Nat.mul_le_mul (Nat.le_refl _) h3
 omega
theorem zmA {u n1 n0 y : Nat} (hy : 0 < y) : ((u * W32 + n1) * W32 + n0) / y = (u * W32 + n1) / y * W32 + ((u * W32 + n1) % y * W32 + n0) / y ∧ ((u * W32 + n1) * W32 + n0) % y = ((u * W32 + n1) % y * W32 + n0) % y := by
 generalize u * W32 + n1 = U
 have e : U * W32 + n0 = (U % y * W32 + n0) + y * (U / y * W32) := by
  have := Nat.mod_add_div U y
  conv => lhs; rw [← this]
  rw [Nat.add_mul, Nat.mul_assoc]; omega
 rw [e]
 refine ⟨?_, Nat.add_mul_mod_self_left _ _ _⟩
 rw [Nat.add_mul_div_left _ _ hy, Nat.add_comm]
theorem zlg (N y s : Nat) (hy : 0 < y) : N * 2 ^ s / (y * 2 ^ s) = N / y ∧ N * 2 ^ s % (y * 2 ^ s) / 2 ^ s = N % y := by
 have hp : 0 < 2 ^ s := Nat.pow_pos (by decide)
 exact ⟨Nat.mul_div_mul_right _ _ hp, by rw [Nat.mul_mod_mul_right, Nat.mul_div_cancel _ hp]⟩
theorem zlh (hi lo y s : Nat) (hlo : lo < B64) (hh : hi < y) (hs : s < 64) (hy : y * 2 ^ s < B64) :
  hi * 2 ^ s < B64 ∧ lo / 2 ^ (64 - s) < 2 ^ s ∧ hi * 2 ^ s + lo / 2 ^ (64 - s) < y * 2 ^ s ∧ (hi * 2 ^ s + lo / 2 ^ (64 - s)) * B64 + lo * 2 ^ s % B64 = (hi * B64 + lo) * 2 ^ s := by
 have hb : B64 = 2 ^ (64 - s) * 2 ^ s := by rw [← Nat.pow_add, show 64 - s + s = 64 by omega, za0]
 have hp : 0 < 2 ^ s := Nat.pow_pos (by decide)
 have hp2 : 0 < 2 ^ (64 - s) := Nat.pow_pos (by decide)
 generalize 2 ^ (64 - s) = S at *
 generalize 2 ^ s = R at *
 generalize B64 = Bq at *
 have h1 : lo / S < R := by rw [Nat.div_lt_iff_lt_mul hp2, Nat.mul_comm]; rw [hb] at hlo; exact hlo
 have h2 : (hi + 1) * R ≤ y * R := Nat.mul_le_mul hh (Nat.le_refl _)
 rw [Nat.add_mul] at h2
 refine ⟨by omega, h1, by omega, ?_⟩
 have h3 : lo * R % Bq = lo % S * R := by rw [hb, Nat.mul_mod_mul_right]
 rw [h3]
 have h4 := Nat.mod_add_div lo S
 have e1 : (hi * Bq + lo) * R = hi * Bq * R + lo % S * R + S * (lo / S) * R := by
  conv => lhs; rw [← h4]
  rw [Nat.add_mul, Nat.add_mul]; omega
 rw [e1, Nat.add_mul]
 have e2 : hi * R * Bq = hi * Bq * R := Nat.mul_right_comm _ _ _
 have e3 : lo / S * Bq = S * (lo / S) * R := by rw [hb, ← Nat.mul_assoc, Nat.mul_comm (lo / S)]
 omega
theorem zoh (z : Int) (m : Nat) (hm : m < B64) (h : ∃ k : Int, z = (m : Int) + k * 18446744073709551616) : IntKind.u64.wrap z = (m : Int) := by
 obtain ⟨k, rfl⟩ := h
 rw [IntKind.wrap_u64]
 unfold B64 at hm
 rw [Int.add_mul_emod_self_right]
 omega
theorem zj6 (u n q y : Nat) (hy : y < B64) (hr : (u * W32 + n) % y < B64) (hq : q = (u * W32 + n) / y) :
  IntKind.u64.wrap (IntKind.u64.wrap (IntKind.u64.wrap ((u : Int) * 4294967296) + (n : Int)) - IntKind.u64.wrap ((q : Int) * (y : Int))) = (((u * W32 + n) % y : Nat) : Int) := by
 have h := Nat.mod_add_div (u * W32 + n) y
 rw [← hq] at h
 generalize (u * W32 + n) % y = r at *
 refine zoh _ r hr ?_
 simp only [IntKind.wrap_u64]
 have e1 := Int.emod_add_mul_ediv ((u : Int) * 4294967296) 18446744073709551616
 have e2 := Int.emod_add_mul_ediv ((u : Int) * 4294967296 % 18446744073709551616 + n) 18446744073709551616
 have e3 := Int.emod_add_mul_ediv ((q : Int) * (y : Int)) 18446744073709551616
 have e4 : (r : Int) + (q : Int) * (y : Int) = (u : Int) * 4294967296 + n := by
  have : ((r + y * q : Nat) : Int) = ((u * W32 + n : Nat) : Int) := by rw [h]
  rw [Int.natCast_add, Int.natCast_add, Int.natCast_mul, Int.natCast_mul, Int.mul_comm (y : Int)] at this
  exact this
 refine ⟨((q : Int) * (y : Int)) / 18446744073709551616 - ((u : Int) * 4294967296 % 18446744073709551616 + n) / 18446744073709551616 - ((u : Int) * 4294967296) / 18446744073709551616, ?_⟩
 generalize (q : Int) * (y : Int) = Q at *
 omega
end Go.Proofs.YtpnbgalbdohfgaaGreatDoor
