/- Texts of the second layer in one: Base Ty Tq1 Cm2 Wd2 Wd3. -/
import Derived.Test.YtibedaeefnjjlaaGreatProg
import Derived.WalkKit
import Derived.WalkSpells
import Derived.WalkLawsBesides
import Derived.Laws.BitsAllLaws
import Derived.Laws.Rows
import Derived.Laws.OwnMore
import Derived.Lib.Hide
import Derived.KernelRfl
import Derived.Below
import Derived.Deep.AppendLies
import Derived.Deep.Draws
import Derived.Test.YtibedaeefnjjlaaGreatG3
import Derived.Test.YtibedaeefnjjlaaGreatG5
import Derived.Test.YtibedaeefnjjlaaGreatG4
import Derived.Lib.Mul64
import Derived.Laws.Bits64b
import Derived.Laws.Externs
set_option maxRecDepth 100000
set_option linter.unusedVariables false
set_option linter.unusedSimpArgs false
namespace Go.Proofs.YtibedaeefnjjlaaGreat
open Go.RowKit
def bv (l : List UInt8) : List Value := l.map fun b => .int .u8 (b.toNat : Int)
theorem znu (l : List UInt8) : (bv l).length = l.length := by simp [bv]
theorem zsQ (l : List UInt8) (k : Nat) (h : k < l.length) : (bv l)[k]? = some (.int .u8 ((l[k]'h).toNat : Int)) := by simp [bv, h]
theorem zri (a : List UInt8) (k : Nat) : bv (a.take k) = (bv a).take k := by simp [bv, List.map_take]
def Rd (w : World) (size : Nat) (A : Option Addr) (n : Nat) (vs : List Value) : Prop :=
 vs.length = n * size ∧ (0 < n → ∃ ad, A = some ad ∧ ∀ j u, vs[j]? = some u → w.cell? (ad.add j) = some u)
theorem add_add (a : Addr) (i j : Nat) : (a.add i).add j = a.add (i + j) := by
 unfold Addr.add
 by_cases hi : i = 0 <;> by_cases hj : j = 0 <;> simp [hi, hj, Nat.add_assoc]
theorem zbY (a : Addr) (n : Nat) : (a.add n).block = a.block := by unfold Addr.add; split <;> rfl
section
variable {w w' : World} {size n : Nat} {A : Option Addr} {vs : List Value}
theorem Rd.nil : Rd w size A 0 [] := ⟨by simp, fun h => absurd h (by omega)⟩
theorem Rd.keep (h : Rd w size A n vs) (hk : ∀ p : Addr, p.block < w.heap.size → w'.cell? p = w.cell? p) : Rd w' size A n vs :=
 ⟨h.1, fun hn => by
  obtain ⟨ad, e, hc⟩ := h.2 hn
  exact ⟨ad, e, fun j u hu => (hk _ (block_lt_of_cell (hc j u hu))).trans (hc j u hu)⟩⟩
theorem Rd.below (h : Rd w size A n vs) (hb : Below w.heap.size w w') : Rd w' size A n vs := h.keep fun _ hp => hb.cell hp
theorem Rd.drew (h : Rd w size A n vs) : Rd w.drew size A n vs := h
theorem Rd.drewN (h : Rd w size A n vs) (k : Nat) : Rd (w.drewN k) size A n vs := h
theorem Rd.alloc (h : Rd w size A n vs) (o : Obj) : Rd (w.alloc o) size A n vs := h.keep fun p hp => World.cell?_alloc_lt w o p hp
theorem Rd.lt (h : Rd w 1 A n vs) (hn : 0 < n) (ad : Addr) (e : A = some ad) : ad.block < w.heap.size := by
 obtain ⟨ad', e', hc⟩ := h.2 hn
 rw [e] at e'
 injection e' with e'
 subst e'
 have hl : 0 < vs.length := by have := h.1; omega
 have h1 := block_lt_of_cell (hc 0 _ (List.getElem?_eq_getElem hl))
 rwa [zbY] at h1
theorem Rd.at_ {k : Nat} (h : Rd w 1 A n vs) (hk : k < n) : ∃ ad u, A = some ad ∧ vs[k]? = some u ∧ w.cell? (ad.add k) = some u := by
 obtain ⟨ad, e, hc⟩ := h.2 (by omega)
 have hl : k < vs.length := by have := h.1; omega
 exact ⟨ad, vs[k], e, List.getElem?_eq_getElem hl, hc k _ (List.getElem?_eq_getElem hl)⟩
theorem Rd.byte {l : List UInt8} {k : Nat} (h : Rd w 1 A n (bv l)) (hk : k < n) : ∃ ad, ∃ hl : k < l.length, A = some ad ∧ w.cell? (ad.add k) = some (.int .u8 ((l[k]'hl).toNat : Int)) := by
 have hl : k < l.length := by have := h.1; rw [znu] at this; omega
 obtain ⟨ad, u, e, hu, hc⟩ := h.at_ hk
 rw [zsQ l k hl] at hu
 injection hu with hu
 exact ⟨ad, hl, e, by rw [hc, ← hu]⟩
theorem Rd.len {l : List UInt8} (h : Rd w 1 A n (bv l)) : n = l.length := by have := h.1; rw [znu] at this; omega
theorem Rd.cut (h : Rd w size A n vs) {k m cap : Nat} (hk : k ≤ m) (hm : m ≤ n) (hc : n ≤ cap) :
  Rd w size (if cap = k then A else A.map (·.add (k * size))) (m - k) ((vs.drop (k * size)).take ((m - k) * size)) := by
 have h1 := h.1
 have hms : m * size ≤ n * size := Nat.mul_le_mul_right _ hm
 have hks : k * size ≤ m * size := Nat.mul_le_mul_right _ hk
 refine ⟨by rw [List.length_take, List.length_drop, h1, Nat.sub_mul]; omega, fun hn => ?_⟩
 obtain ⟨ad, rfl, hcell⟩ := h.2 (by omega)
 rw [if_neg (by omega)]
 refine ⟨ad.add (k * size), rfl, fun j u hu => ?_⟩
 rw [add_add]
 refine hcell _ u ?_
 rw [List.getElem?_take] at hu
 split at hu
 ·rwa [List.getElem?_drop] at hu
 ·cases hu
theorem Rd.pre {l : List UInt8} (h : Rd w 1 A n (bv l)) (m : Nat) (hm : m ≤ n) : Rd w 1 A m (bv (l.take m)) := by
 have hl := h.len
 refine ⟨by rw [znu, List.length_take]; omega, fun hn => ?_⟩
 obtain ⟨ad, rfl, hcell⟩ := h.2 (by omega)
 refine ⟨ad, rfl, fun j u hu => ?_⟩
 refine hcell _ u ?_
 rw [zri, List.getElem?_take] at hu
 split at hu
 ·exact hu
 ·cases hu
end
def IsRow (k : IntKind) (w : World) (a : Option Addr) (len cap : Nat) (zs : List Int) : Prop :=
 (a = none ∧ len = 0 ∧ cap = 0 ∧ zs = []) ∨
 ∃ x, a = some x ∧ len ≤ cap ∧ cap ≤ maxLen ∧ zs.length = cap ∧ (∀ i, i < zs.length → w.cell? (x.add i) = some (.int k (zs.getD i 0))) ∧ ∀ n ∈ zs, (Lit.int k n).wf = true
theorem zmw {k : IntKind} {x : Int} (h : (Lit.int k x).wf = true) : k.min ≤ x ∧ x ≤ k.max := by
 simpa [Lit.wf] using h
theorem zt3 {x : Int} (h : (Lit.int .u8 x).wf = true) : 0 ≤ x ∧ x < 256 := by
 have := zmw h
 simp [IntKind.min, IntKind.max, IntKind.signed, IntKind.bits] at this
 omega
theorem ztM {x : Int} (h : (Lit.int .i64 x).wf = true) : -9223372036854775808 ≤ x ∧ x < 9223372036854775808 := by
 have := zmw h
 simp [IntKind.min, IntKind.max, IntKind.signed, IntKind.bits] at this
 omega
theorem IsRow.vals {k : IntKind} {w : World} {a : Option Addr} {len cap : Nat} {zs : List Int} (h : IsRow k w a len cap zs) :
  len ≤ cap ∧ (zs.take len).length = len ∧ (∀ x ∈ zs.take len, (Lit.int k x).wf = true) ∧ Rd w 1 a len ((zs.take len).map (Value.int k)) := by
 rcases h with ⟨rfl, rfl, rfl, rfl⟩ | ⟨x, rfl, h1, h2, h3, h4, h5⟩
 ·exact ⟨Nat.le_refl _, rfl, by simp, Rd.nil⟩
 ·refine ⟨h1, by rw [List.length_take]; omega, fun y hy => h5 y (List.mem_of_mem_take hy), by rw [List.length_map, List.length_take]; omega, fun _ => ⟨x, rfl, fun j u hu => ?_⟩⟩
  rw [List.getElem?_map, List.getElem?_take] at hu
  split at hu
  ·have hj : j < zs.length := by omega
   rw [h4 j hj]
   simp [hj] at hu
   rw [← hu]
   simp [List.getD, hj]
  ·cases hu
theorem IsRow.bytes {w : World} {a : Option Addr} {len cap : Nat} {zs : List Int} (h : IsRow .u8 w a len cap zs) :
  ∃ l : List UInt8, l.length = len ∧ len ≤ cap ∧ Rd w 1 a len (bv l) := by
 obtain ⟨h1, h2, h3, h4⟩ := h.vals
 refine ⟨(zs.take len).map fun x => UInt8.ofNat x.toNat, by rw [List.length_map, h2], h1, ?_⟩
 have : bv ((zs.take len).map fun x => UInt8.ofNat x.toNat) = (zs.take len).map (Value.int .u8) := by
  rw [bv, List.map_map]
  apply List.map_congr_left
  intro x hx
  have hw := zt3 (h3 x hx)
  have : (((UInt8.ofNat x.toNat).toNat : Nat) : Int) = x := by
   rw [UInt8.toNat_ofNat']
   omega
  simp only [Function.comp, this]
 rw [this]
 exact h4
end Go.Proofs.YtibedaeefnjjlaaGreat
namespace Go.Proofs.YtibedaeefnjjlaaGreat
open Go.RowKit Go.Ab
instance ti_0 : OnT Tryz.prog 2 := ⟨by kernel_rfl⟩
instance ti_1 : ItT Tryz.prog 2 .i64 := ⟨by kernel_rfl⟩
instance ti_3 : OnT Tryz.prog 3 := ⟨by kernel_rfl⟩
instance ti_6 : OnT Tryz.prog 4 := ⟨by kernel_rfl⟩
instance zuW : SlT Tryz.prog 22 42 24 192 := ⟨by kernel_rfl⟩
instance zuX : OnT Tryz.prog 22 := ⟨by kernel_rfl⟩
instance zuY : SlT Tryz.prog 23 3 1 8 := ⟨by kernel_rfl⟩
instance zuZ : OnT Tryz.prog 23 := ⟨by kernel_rfl⟩
instance zu0 : SlT Tryz.prog 30 65 2 16 := ⟨by kernel_rfl⟩
instance zu1 : OnT Tryz.prog 33 := ⟨by kernel_rfl⟩
instance zu2 : ItT Tryz.prog 33 .u64 := ⟨by kernel_rfl⟩
instance zu3 : ZrT Tryz.prog 33 [.int .u64 0] := ⟨by kernel_rfl, by kernel_rfl⟩
instance zu4 : AgT Tryz.prog 34 4 := ⟨by kernel_rfl⟩
instance zu5 : ArT Tryz.prog 34 4 33 1 := ⟨by kernel_rfl⟩
instance zu6 : ZrT Tryz.prog 34 [.int .u64 0, .int .u64 0, .int .u64 0, .int .u64 0] := ⟨by kernel_rfl, by kernel_rfl⟩
instance zu7 : AgT Tryz.prog 36 5 := ⟨by kernel_rfl⟩
instance zu8 : FdT Tryz.prog 36 0 0 4 := ⟨by kernel_rfl, by kernel_rfl⟩
instance zu9 : FdT Tryz.prog 36 1 1 34 := ⟨by kernel_rfl, by kernel_rfl⟩
instance zva : PlT Tryz.prog 36 [(0, 1), (1, 4)] := ⟨by kernel_rfl⟩
instance zvb : ZrT Tryz.prog 36 [.bool false, .int .u64 0, .int .u64 0, .int .u64 0, .int .u64 0] := ⟨by kernel_rfl, by kernel_rfl⟩
instance zvc : AgT Tryz.prog 38 10 := ⟨by kernel_rfl⟩
instance zt6 : FdT Tryz.prog 38 0 0 36 := ⟨by kernel_rfl, by kernel_rfl⟩
instance zt7 : FdT Tryz.prog 38 1 5 36 := ⟨by kernel_rfl, by kernel_rfl⟩
instance zt8 : PlT Tryz.prog 38 [(0, 5), (5, 5)] := ⟨by kernel_rfl⟩
instance zt9 : ZrT Tryz.prog 38 [.bool false, .int .u64 0, .int .u64 0, .int .u64 0, .int .u64 0, .bool false, .int .u64 0, .int .u64 0, .int .u64 0, .int .u64 0] := ⟨by kernel_rfl, by kernel_rfl⟩
instance zua : AgT Tryz.prog 40 21 := ⟨by kernel_rfl⟩
instance zub : FdT Tryz.prog 40 0 0 4 := ⟨by kernel_rfl, by kernel_rfl⟩
instance zuc : FdT Tryz.prog 40 1 1 38 := ⟨by kernel_rfl, by kernel_rfl⟩
instance zud : FdT Tryz.prog 40 2 11 38 := ⟨by kernel_rfl, by kernel_rfl⟩
instance zue : PlT Tryz.prog 40 [(0, 1), (1, 10), (11, 10)] := ⟨by kernel_rfl⟩
instance zuf : ZrT Tryz.prog 40 [.bool false, .bool false, .int .u64 0, .int .u64 0, .int .u64 0, .int .u64 0, .bool false, .int .u64 0, .int .u64 0, .int .u64 0, .int .u64 0, .bool false, .int .u64 0, .int .u64 0, .int .u64 0, .int .u64 0, .bool false, .int .u64 0, .int .u64 0, .int .u64 0, .int .u64 0] := ⟨by kernel_rfl, by kernel_rfl⟩
instance zug : AgT Tryz.prog 42 24 := ⟨by kernel_rfl⟩
instance zuh : FdT Tryz.prog 42 0 0 3 := ⟨by kernel_rfl, by kernel_rfl⟩
instance zui : FdT Tryz.prog 42 2 2 2 := ⟨by kernel_rfl, by kernel_rfl⟩
instance zuj : FdT Tryz.prog 42 3 3 40 := ⟨by kernel_rfl, by kernel_rfl⟩
instance zuk : PlT Tryz.prog 42 [(0, 1), (1, 1), (2, 1), (3, 21)] := ⟨by kernel_rfl⟩
instance zul : ZrT Tryz.prog 42 [.int .i64 0, .int .i64 0, .int .i64 0, .bool false, .bool false, .int .u64 0, .int .u64 0, .int .u64 0, .int .u64 0, .bool false, .int .u64 0, .int .u64 0, .int .u64 0, .int .u64 0, .bool false, .int .u64 0, .int .u64 0, .int .u64 0, .int .u64 0, .bool false, .int .u64 0, .int .u64 0, .int .u64 0, .int .u64 0] := ⟨by kernel_rfl, by kernel_rfl⟩
instance zum : SlT Tryz.prog 47 51 12 112 := ⟨by kernel_rfl⟩
instance zun : AgT Tryz.prog 51 12 := ⟨by kernel_rfl⟩
instance zuo : FdT Tryz.prog 51 0 0 2 := ⟨by kernel_rfl, by kernel_rfl⟩
instance zup : FdT Tryz.prog 51 1 1 38 := ⟨by kernel_rfl, by kernel_rfl⟩
instance zuq : FdT Tryz.prog 51 2 11 23 := ⟨by kernel_rfl, by kernel_rfl⟩
instance zur : PlT Tryz.prog 51 [(0, 1), (1, 10), (11, 1)] := ⟨by kernel_rfl⟩
instance zus : ZrT Tryz.prog 51 [.int .i64 0, .bool false, .int .u64 0, .int .u64 0, .int .u64 0, .int .u64 0, .bool false, .int .u64 0, .int .u64 0, .int .u64 0, .int .u64 0, .slice none 0 0] := ⟨by kernel_rfl, by kernel_rfl⟩
instance zut : FdT Tryz.prog 58 0 0 23 := ⟨by kernel_rfl, by kernel_rfl⟩
instance zuu : FdT Tryz.prog 58 1 1 3 := ⟨by kernel_rfl, by kernel_rfl⟩
instance zuv : AgT Tryz.prog 65 2 := ⟨by kernel_rfl⟩
instance zuw : FdT Tryz.prog 65 0 0 2 := ⟨by kernel_rfl, by kernel_rfl⟩
instance zux : FdT Tryz.prog 65 1 1 2 := ⟨by kernel_rfl, by kernel_rfl⟩
instance zuy : PlT Tryz.prog 65 [(0, 1), (1, 1)] := ⟨by kernel_rfl⟩
instance zuz : ZrT Tryz.prog 65 [.int .i64 0, .int .i64 0] := ⟨by kernel_rfl, by kernel_rfl⟩
instance zuA : AgT Tryz.prog 67 28 := ⟨by kernel_rfl⟩
instance zuB : FdT Tryz.prog 67 0 0 2 := ⟨by kernel_rfl, by kernel_rfl⟩
instance zuC : FdT Tryz.prog 67 1 1 3 := ⟨by kernel_rfl, by kernel_rfl⟩
instance zuD : FdT Tryz.prog 67 2 2 3 := ⟨by kernel_rfl, by kernel_rfl⟩
instance zuE : FdT Tryz.prog 67 3 3 65 := ⟨by kernel_rfl, by kernel_rfl⟩
instance zuF : FdT Tryz.prog 67 4 5 2 := ⟨by kernel_rfl, by kernel_rfl⟩
instance zuG : FdT Tryz.prog 67 5 6 2 := ⟨by kernel_rfl, by kernel_rfl⟩
instance zuH : FdT Tryz.prog 67 6 7 40 := ⟨by kernel_rfl, by kernel_rfl⟩
instance zuI : PlT Tryz.prog 67 [(0, 1), (1, 1), (2, 1), (3, 2), (5, 1), (6, 1), (7, 21)] := ⟨by kernel_rfl⟩
instance zuJ : ZrT Tryz.prog 67 [.int .i64 0, .int .i64 0, .int .i64 0, .int .i64 0, .int .i64 0, .int .i64 0, .int .i64 0, .bool false, .bool false, .int .u64 0, .int .u64 0, .int .u64 0, .int .u64 0, .bool false, .int .u64 0, .int .u64 0, .int .u64 0, .int .u64 0, .bool false, .int .u64 0, .int .u64 0, .int .u64 0, .int .u64 0, .bool false, .int .u64 0, .int .u64 0, .int .u64 0, .int .u64 0] := ⟨by kernel_rfl, by kernel_rfl⟩
instance zuK : SlT Tryz.prog 74 2 1 8 := ⟨by kernel_rfl⟩
instance zuL : ItT Tryz.prog 77 .u64 := ⟨by kernel_rfl⟩
instance zuM : SlT Tryz.prog 80 87 33 280 := ⟨by kernel_rfl⟩
instance zuN : AgT Tryz.prog 87 33 := ⟨by kernel_rfl⟩
instance zuO : FdT Tryz.prog 87 0 0 51 := ⟨by kernel_rfl, by kernel_rfl⟩
instance zuP : FdT Tryz.prog 87 1 12 40 := ⟨by kernel_rfl, by kernel_rfl⟩
instance zuQ : PlT Tryz.prog 87 [(0, 12), (12, 21)] := ⟨by kernel_rfl⟩
instance zuR : ZrT Tryz.prog 87 [.int .i64 0, .bool false, .int .u64 0, .int .u64 0, .int .u64 0, .int .u64 0, .bool false, .int .u64 0, .int .u64 0, .int .u64 0, .int .u64 0, .slice none 0 0, .bool false, .bool false, .int .u64 0, .int .u64 0, .int .u64 0, .int .u64 0, .bool false, .int .u64 0, .int .u64 0, .int .u64 0, .int .u64 0, .bool false, .int .u64 0, .int .u64 0, .int .u64 0, .int .u64 0, .bool false, .int .u64 0, .int .u64 0, .int .u64 0, .int .u64 0] := ⟨by kernel_rfl, by kernel_rfl⟩
instance zuS : SlT Tryz.prog 127 33 1 8 := ⟨by kernel_rfl⟩
instance zuT : SlT Tryz.prog 128 33 1 8 := ⟨by kernel_rfl⟩
instance zuU : ArT Tryz.prog 195 8 33 1 := ⟨by kernel_rfl⟩
instance zuV : ZrT Tryz.prog 195 [.int .u64 0, .int .u64 0, .int .u64 0, .int .u64 0, .int .u64 0, .int .u64 0, .int .u64 0, .int .u64 0] := ⟨by kernel_rfl, by kernel_rfl⟩
def modz (a n : Int) : Int := if n < 1 then 0 else a % n
theorem zmL (a : Int) {n : Int} (h : 1 ≤ n) : 0 ≤ modz a n ∧ modz a n < n := by
 unfold modz
 rw [if_neg (by omega)]
 exact ⟨Int.emod_nonneg _ (by omega), Int.emod_lt_of_pos _ (by omega)⟩
def Ints (l : List Int) : Prop := ∀ x ∈ l, -9223372036854775808 ≤ x ∧ x < 9223372036854775808
def nx (l : List Int) (k : Nat) (m : Int) : Int := modz (l.getD k 0) m
def adv (l : List Int) (k : Nat) : Nat := if k < l.length then k + 1 else k
theorem zau (l : List Int) (k : Nat) {m : Int} (h : 1 ≤ m) : 0 ≤ nx l k m ∧ nx l k m < m := zmL _ h
abbrev tb (l : List Int) (k : Nat) : Blk := .var 58 [.r (.sl 1 (nums .i64 l)), .r (.v (.int .i64 (k : Int)))]
theorem ztY (a n : Int) (ha : -9223372036854775808 ≤ a ∧ a < 9223372036854775808) (hn : -9223372036854775808 ≤ n ∧ n < 9223372036854775808) : zan Tryz.prog 30 [.r (.v (.int .i64 a)), .r (.v (.int .i64 n))] [] (.r (.v (.int .i64 (modz a n)))) [] := by
 refine zap Tryz.func30 rfl (Nat.le_of_ble_eq_true rfl) rfl rfl ?_
 have h0 : n < 1 → (0 : Int) = modz a n := fun h => by unfold modz; rw [if_pos h]
 have h1 : 1 ≤ n → (a.tmod n < 0 → IntKind.i64.wrap (a.tmod n + n) = modz a n) ∧ (¬ a.tmod n < 0 → a.tmod n = modz a n) := fun h => by
  have hmz : modz a n = a % n := by unfold modz; rw [if_neg (by omega)]
  rw [hmz]
  have e1 := Int.emod_nonneg a (show n ≠ 0 by omega)
  have e2 := Int.emod_lt_of_pos a (show 0 < n by omega)
  have e3 := Int.tmod_eq_emod (a := a) (b := n)
  refine ⟨fun hl => ?_, fun hl => ?_⟩
  ·rw [IntKind.wrap_i64]
   split at e3
   ·omega
   ·have := Int.natAbs_of_nonneg (show 0 ≤ n by omega)
    omega
  ·split at e3
   ·omega
   ·have := Int.natAbs_of_nonneg (show 0 ≤ n by omega)
    omega
 (repeat' (first | refine zad ?_ | (refine zac (fun hb => ?_) (fun hb => ?_) <;> (try (exfalso; omega))) | fail))
 all_goals (first | (exfalso; omega) | exact ret1 [] (.int (h0 (by omega))) rfl rfl rfl | exact ret1 [] (.int ((h1 (by omega)).1 (by assumption))) rfl rfl rfl | exact ret1 [] (.int ((h1 (by omega)).2 (by assumption))) rfl rfl rfl)
theorem zj6 {S : St} {b : Blk} (h : getH S.H 0 = some b) (hi : b.ids = []) : ∀ i c, (i, some c) ∈ zbu 0 [some b] → getH S.H i = some c ∧ c.ids = [] := by
 intro i c hc
 simp only [zbu, List.mem_cons, List.not_mem_nil, or_false, Prod.mk.injEq, Option.some.injEq] at hc
 obtain ⟨rfl, rfl⟩ := hc
 exact ⟨h, hi⟩
theorem za3 (l : List Int) (k : Nat) (m : Int) (hl : Ints l) (hn : l.length ≤ 140737488351232) (hm : -9223372036854775808 ≤ m ∧ m < 9223372036854775808) : zan Tryz.prog 12 [.pt 0 0, .r (.v (.int .i64 m))] [tb l k] (.r (.v (.int .i64 (nx l k m)))) [some (tb l (adv l k))] := by
 refine zap Tryz.func12 rfl (Nat.le_of_ble_eq_true rfl) rfl rfl ?_
 have hll := zbz .i64 l
 rcases Nat.lt_or_ge k l.length with hk | hk
 ·have hw1 : IntKind.i64.wrap ((k : Int) + 1) = ((k + 1 : Nat) : Int) := by rw [IntKind.wrap_i64]; omega
  have hw2 : IntKind.i64.wrap (((k + 1 : Nat) : Int) - 1) = (k : Int) := by rw [IntKind.wrap_i64]; omega
  have hg := zi0 (k := .i64) hk
  have hx : -9223372036854775808 ≤ l.getD k 0 ∧ l.getD k 0 < 9223372036854775808 := by
   have : l.getD k 0 = l[k] := by simp [hk]
   rw [this]; exact hl _ (List.getElem_mem hk)
  have ha : adv l k = k + 1 := by unfold adv; rw [if_pos hk]
  have hn : nx l k m = modz (l.getD k 0) m := rfl
  rw [ha, hn]
  (repeat' (first | refine zad ?_ | (refine is_f 30 ?_; refine zaa (ztY (l.getD k 0) m hx hm) ?_) | (refine zac (fun hb => ?_) (fun hb => ?_) <;> (try (exfalso; omega))) | fail))
  all_goals (first | (exfalso; omega) | exact zdl [] (.int rfl) rfl rfl (zj6 rfl rfl) rfl)
 ·have ha : adv l k = k := by unfold adv; rw [if_neg (by omega)]
  have hz : (0 : Int) = nx l k m := by
   unfold nx modz
   have : l.getD k 0 = 0 := by simp [hk]
   rw [this]; split <;> simp
  rw [ha, ← hz]
  (repeat' (first | refine zad ?_ | (refine zac (fun hb => ?_) (fun hb => ?_) <;> (try (exfalso; omega))) | fail))
  all_goals (first | (exfalso; omega) | exact zdl [] (.int rfl) rfl rfl (zj6 rfl rfl) rfl)
theorem zrP (A : Option Addr) (n c : Nat) (w : World) : Calls Tryz.prog 7 #[.slice A n c] w fun e w' => e = .returned (.pointer (some ⟨w.heap.size, 0, none⟩)) ∧ w'.heap[w.heap.size]? = some (.cells #[.slice A n c, .int .i64 ((0 : Nat) : Int)] 58 (0, 0)) ∧ Below w.heap.size w w' := by
 go_enter Tryz.func7, Tryz.ntmps7
 go_wp2
 go_ret
 exact ⟨rfl, heap_alloc_new _ _, (Below.refl _ _).alloc (Nat.le_refl _) _⟩
theorem ztZ (l : List Int) : zsN Tryz.prog 7 [.r (.sl 1 (nums .i64 l))] 58 [.sl 1 (nums .i64 l), .v (.int .i64 ((0 : Nat) : Int))] := by
 intro w Z M us hM hargs
 simp only [AV.reps, AV.rep] at hargs
 obtain ⟨u, us', rfl, h1, rfl⟩ := hargs
 have h1' := h1
 rw [RV.rep] at h1
 obtain ⟨A, c, rfl, _⟩ := h1
 refine (zrP A _ c w).mono fun e w' ⟨he, ha, hb⟩ => ⟨_, _, he, Nat.le_refl _, ha, ?_, hb⟩
 exact .cons rfl (RV.rep_mono (Go.Ab.Upto.of_below hb) (fun q hq hq' => hq'.resolve_right (by omega)) _ _ h1') (.cons rfl (by rw [RV.rep]) .nil)
def iv (l : List Int) : List Value := l.map (Value.int .i64)
theorem zta (l : List Int) : (iv l).length = l.length := by simp [iv]
theorem zs9 (l : List Int) (k : Nat) (h : k < l.length) : (iv l)[k]? = some (.int .i64 (l[k]'h)) := by simp [iv, h]
theorem IsRow.ints {w : World} {a : Option Addr} {len cap : Nat} {zs : List Int} (h : IsRow .i64 w a len cap zs) :
  ∃ l : List Int, l.length = len ∧ len ≤ cap ∧ Ints l ∧ Rd w 1 a len (iv l) := by
 obtain ⟨h1, h2, h3, h4⟩ := h.vals
 exact ⟨zs.take len, h2, h1, fun x hx => ztM (h3 x hx), h4⟩
theorem zpI {P : Program} {f : FuncId} {args : List AV} {us : List Value} {x : Value} {w : World} (h : zan P f args [] (.r (.v x)) []) (hr : AV.reps (fun _ => undef) (fun _ => False) w args us) : Calls P f us.toArray w fun e w' => e = .returned x ∧ Below w.heap.size w w' := by
 refine (h w (fun _ => undef) (fun _ => False) 0 us (fun x h => h.elim) (Nat.zero_le _) hr (fun i b h => by simp [numd] at h) (fun i j b c h => by simp [numd] at h)).mono fun e w' ⟨v, he, Z', A⟩ => ?_
 have h1 := A.out
 simp only [zaJ, AV.unfr, AV.rep, RV.rep] at h1
 subst h1
 refine ⟨he, Go.Ab.Upto.to_below (A.upto.mono fun q _ h => ?_)⟩
 obtain ⟨i, o, hi, _⟩ := h
 simp [zaJ, zbu] at hi
theorem znI (B : Nat → Prop) (w : World) : ∀ l : List Int, RVs B w (nums .i64 l).flatten (iv l)
 | [] => .nil
 | x :: l => by
  rw [nums, List.map_cons, List.flatten_cons, iv, List.map_cons]
  exact .cons rfl (by rw [RV.rep]) (znI B w l)
theorem zsV {B : Nat → Prop} {w : World} {A : Option Addr} {n c : Nat} {l : List Int} (h : Rd w 1 A n (iv l)) (hn : n ≤ c) (hc : c ≤ maxLen) (hB : ∀ q, q < w.heap.size → ¬ B q) : RV.rep B w (.sl 1 (nums .i64 l)) (.slice A n c) := by
 have hl : l.length = n := by have := h.1; rw [zta] at this; omega
 rw [RV.rep, zbz]
 refine ⟨A, c, by rw [hl], by omega, hc, fun e he => by simp only [nums, List.mem_map] at he; obtain ⟨b, _, rfl⟩ := he; rfl, fun hne => ?_⟩
 have hpos : 0 < n := by
  rcases Nat.eq_zero_or_pos n with h0 | h0
  ·exact absurd (List.eq_nil_of_length_eq_zero (by rw [zbz]; omega)) hne
  ·exact h0
 obtain ⟨ad, e, hcell⟩ := h.2 hpos
 have hlt : ad.block < w.heap.size := by
  have := block_lt_of_cell (hcell 0 _ (zs9 l 0 (by omega)))
  rwa [zbY] at this
 refine ⟨ad, e, hlt, hB _ hlt, ?_⟩
 rw [RV.rows_flat, RV.row_vals]
 exact ⟨iv l, znI _ _ l, fun j v hj => by rw [Nat.zero_add]; exact hcell j v hj⟩
end Go.Proofs.YtibedaeefnjjlaaGreat
namespace Go.Proofs.YtibedaeefnjjlaaGreat
open Go.RowKit Go.Ab Go.Wd
theorem zjs (a : Nat) (ha : a < 18446744073709551616) : bits .and .u64 (a : Int) 4294967295 = ((a % 4294967296 : Nat) : Int) := by
 have h := bits_and_u64_nat a 4294967295 ha (by omega)
 have e : a &&& 4294967295 = a % 4294967296 := Nat.and_two_pow_sub_one_eq_mod a 32
 rw [e] at h
 exact h
theorem zf2 (a : Nat) : (a : Int).fdiv (2 ^ (min (32 : Int).toNat (IntKind.bits .u64))) = ((a / 4294967296 : Nat) : Int) := by
 rw [show min (32 : Int).toNat (IntKind.bits .u64) = 32 from rfl, Int.fdiv_eq_ediv_of_nonneg _ (by omega)]
 omega
theorem zgQ (a b : Nat) (h : a * b < 18446744073709551616) : IntKind.u64.wrap ((a : Int) * (b : Int)) = ((a * b : Nat) : Int) := by
 rw [← Int.natCast_mul, IntKind.wrap_u64]; omega
theorem zdv (a b : Nat) (h : a + b < 18446744073709551616) : IntKind.u64.wrap ((a : Int) + (b : Int)) = ((a + b : Nat) : Int) := by
 rw [IntKind.wrap_u64]; omega
theorem zqw (a b : Nat) : IntKind.u64.wrap ((a : Int) * (b : Int)) = ((a * b % 18446744073709551616 : Nat) : Int) := by
 rw [← Int.natCast_mul, IntKind.wrap_u64]; omega
theorem zon (x y : Nat) (hx : x < B64) (hy : y < B64) : zan Tryz.prog 116 [.r (.v (.int .u64 (x : Int))), .r (.v (.int .u64 (y : Int)))] [] (.tu [.r (.v (.int .u64 ((x * y / B64 : Nat) : Int))), .r (.v (.int .u64 ((x * y % B64 : Nat) : Int)))]) [] := by
 refine zap Tryz.func116 rfl (Nat.le_of_ble_eq_true rfl) rfl rfl ?_
 obtain ⟨bd, bt, bw, hhi⟩ := Lib.mul64_hi x y hx hy
 have ba := Lib.half_mul_le (a := x / 4294967296) (b := y / 4294967296) (by unfold B64 at *; omega) (by unfold B64 at *; omega)
 have bb := Lib.half_mul_le (a := x / 4294967296) (b := y % 4294967296) (by unfold B64 at *; omega) (by omega)
 have bc := Lib.half_mul_le (a := x % 4294967296) (b := y / 4294967296) (by omega) (by unfold B64 at *; omega)
 have m1 := zjs x hx
 have m2 := zjs y hy
 have s1 := zf2 x
 have s2 := zf2 y
 have p4 := zqw x y
 generalize hx0 : x % 4294967296 = x0 at *
 generalize hx1 : x / 4294967296 = x1 at *
 generalize hy0 : y % 4294967296 = y0 at *
 generalize hy1 : y / 4294967296 = y1 at *
 have p1 := zgQ x0 y0 (by omega)
 have p2 := zgQ x1 y0 (by omega)
 have p3 := zgQ x0 y1 (by omega)
 have p5 := zgQ x1 y1 (by omega)
 have s3 := zf2 (x0 * y0)
 have a1 := zdv (x1 * y0) (x0 * y0 / 4294967296) bt
 generalize x1 * y0 + x0 * y0 / 4294967296 = tt at *
 have m3 := zjs tt bt
 have s4 := zf2 tt
 have a2 := zdv (tt % 4294967296) (x0 * y1) bw
 generalize tt % 4294967296 + x0 * y1 = w1 at *
 have s5 := zf2 w1
 have a3 := zdv (x1 * y1) (tt / 4294967296) (by omega)
 have a4 := zdv (x1 * y1 + tt / 4294967296) (w1 / 4294967296) (by omega)
 rw [hhi] at a4
 generalize x1 * y1 + tt / 4294967296 = v at *
 generalize x0 * y1 = q1 at *
 generalize x1 * y1 = q2 at *
 generalize x1 * y0 = q3 at *
 generalize x0 * y0 = q4 at *
 (repeat' (first | refine zad ?_ | (refine zac (fun hb => ?_) (fun hb => ?_) <;> (try (exfalso; omega))) | fail))
 all_goals exact ret2 [] (.int rfl) (.int rfl) rfl rfl rfl rfl
section
variable {env : Nat → AV} {H : Nat → Option Blk} {d : Option Tmp} {ty : TypeId} {pos : String} {af : Array Edge} {g : Option (Nat × Bool)} {x y z : Operand} {t1 t2 t3 : TypeId}
theorem zee {a b c : Nat} (hx : evA env x = .r (.v (.int .u64 (a : Int)))) (hy : evA env y = .r (.v (.int .u64 (b : Int)))) (hz : evA env z = .r (.v (.int .u64 (c : Int)))) (hc : c ≤ 1) :
  zax Tryz.prog ⟨d, .call { callee := .value (.func 117), args := #[x, y, z], argTypes := #[t1, t2, t3] }, ty, pos, af, g⟩ env H [] (.tu [.r (.v (.int .u64 (((a + b + c) % B64 : Nat) : Int))), .r (.v (.int .u64 (((a + b + c) / B64 : Nat) : Int)))]) := by
 refine ⟨fun i b h => by simp at h, fun i hi => by simp [AV.ids, AV.idss] at hi, fun ac w Z M hr _ => ?_⟩
 have h1 := ev_v hx (hr x (by simp [Op.operands, Call.operands]))
 have h2 := ev_v hy (hr y (by simp [Op.operands, Call.operands]))
 have h3 := ev_v hz (hr z (by simp [Op.operands, Call.operands]))
 have hrun : (callFunc 117 #[.int .u64 (a : Int), .int .u64 (b : Int), .int .u64 (c : Int)]).run Tryz.prog w = .ok (.value (.tuple #[.int .u64 (((a + b + c) % B64 : Nat) : Int), .int .u64 (((a + b + c) / B64 : Nat) : Int)])) w := by
  rw [run_callFunc_extern Tryz.func117 (by kernel_rfl) (by kernel_rfl) (by kernel_rfl) (e := add64Entry) (by kernel_rfl), run_add64 a b c (by omega) (by omega) (by omega) (by omega)]
  simp only [Result.andThen]
  congr 5 <;> (unfold B64; omega)
 refine ⟨_, ?_, by rw [AV.rep]; exact ⟨_, rfl, by simp only [AV.reps, AV.rep, RV.rep]; exact ⟨_, _, rfl, rfl, _, _, rfl, rfl, rfl⟩⟩⟩
 have h4 : ac.eval (.func 117) = .func (.func 117) #[] #[] := rfl
 simp only [execOp, resolve, h4, Deferred.ofValue, Sem.run_bind, Sem.run_pure, Result.andThen_ok, invoke, List.map_toArray, List.map_cons, List.map_nil, h1, h2, h3]
 simpa using hrun
theorem zl3 {a b : Nat} (hx : evA env x = .r (.v (.int .u64 (a : Int)))) (hy : evA env y = .r (.v (.int .u64 (b : Int)))) (hz : evA env z = .r (.v (.int .u64 0))) :
  zax Tryz.prog ⟨d, .call { callee := .value (.func 117), args := #[x, y, z], argTypes := #[t1, t2, t3] }, ty, pos, af, g⟩ env H [] (.tu [.r (.v (.int .u64 (((a + b) % B64 : Nat) : Int))), .r (.v (.int .u64 (((a + b) / B64 : Nat) : Int)))]) :=
 zee (c := 0) hx hy hz (by omega)
end
def wns (l : List Nat) : List (List RV) := l.map fun (a : Nat) => [.v (.int .u64 (a : Int))]
theorem zaW (l : List Nat) : (wns l).length = l.length := by unfold wns; simp
theorem zbh {l : List Nat} {i : Nat} (h : i < l.length) : (wns l)[i]? = some [.v (.int .u64 (l.getD i 0 : Nat))] := by unfold wns; simp [h]
theorem zmx (l : List Nat) (k : Nat) : (wns l).take k = wns (l.take k) := by unfold wns; rw [List.map_take]
theorem ziC (l m : List Nat) : wns (l ++ m) = wns l ++ wns m := by unfold wns; rw [List.map_append]
theorem zcB (l : List Nat) (i v : Nat) : (wns l).set i [.v (.int .u64 (v : Int))] = wns (l.set i v) := by unfold wns; rw [List.map_set]
theorem zlM (n : Nat) (h : n < 9223372036854775808) : IntKind.i64.wrap (((n + 1 : Nat) : Int) - 1) = (n : Int) := by rw [IntKind.wrap_i64]; omega
def trS (l : List Nat) : St := ⟨[(0, .r (.sl 1 (wns l)))], [], 0⟩
theorem zid (l : List Nat) : l = [] ∨ ∃ m a, l = m ++ [a] := by
 rcases List.eq_nil_or_concat l with h | ⟨m, a, h⟩
 ·exact .inl h
 ·exact .inr ⟨m, a, by simpa using h⟩
theorem ztG (l : List Nat) (hl : l.length ≤ 9223372036854775800) : zan Tryz.prog 115 [.r (.sl 1 (wns l))] [] (.r (.sl 1 (wns (trim l)))) [] := by
 refine zap Tryz.func115 rfl (Nat.le_of_ble_eq_true rfl) rfl rfl ?_
 (repeat' (first | refine zad ?_ | (refine zac (fun hb => ?_) (fun hb => ?_) <;> (try (exfalso; omega))) | fail))
 refine zas trS (fun x => trim x = trim l ∧ x.length ≤ l.length) (fun x => x.length) l ⟨rfl, Nat.le_refl _⟩ (by (refine Le.mk [] [] zaj zao zaq zal)) fun x hx => ?_
 obtain ⟨hx, hxl⟩ := hx
 rcases zid x with rfl | ⟨m, a, rfl⟩
 ·rw [← hx]
  have h0 : (wns []).length = 0 := rfl
  (repeat' (first | refine zad ?_ | (refine zac (fun hb => ?_) (fun hb => ?_) <;> (try (exfalso; omega))) | fail))
  all_goals (first | exact ret1 [] (.r _) rfl rfl rfl | (exfalso; omega))
 ·have hlen : (wns (m ++ [a])).length = m.length + 1 := by rw [zaW]; simp
  have hml : m.length + 1 ≤ l.length := by simpa using hxl
  have hw : IntKind.i64.wrap (((wns (m ++ [a])).length : Int) - 1) = (m.length : Int) := by rw [hlen]; exact zlM _ (by omega)
  have hg : (wns (m ++ [a]))[m.length]? = some [.v (.int .u64 (a : Int))] := by rw [zbh (by simp)]; simp
  have ht : (wns (m ++ [a])).take m.length = wns m := by rw [zmx]; simp
  by_cases ha : a = 0
  ·subst ha
   rw [zhL] at hx
   (repeat' (first | refine zad ?_ | (refine zac (fun hb => ?_) (fun hb => ?_) <;> (try (exfalso; omega))) | fail))
   all_goals (first | (exfalso; omega) | exact ⟨m, ⟨hx, by omega⟩, by show Le _ _ (trS m); rw [ht]; (refine Le.mk [] [] zaj zao zaq zal), by show m.length < (m ++ [0]).length; simp⟩)
  ·rw [zhK m a ha] at hx
   rw [← hx]
   (repeat' (first | refine zad ?_ | (refine zac (fun hb => ?_) (fun hb => ?_) <;> (try (exfalso; omega))) | fail))
   all_goals (first | (exfalso; omega) | exact ret1 [] (.r _) rfl rfl rfl)
def trO (l : List Nat) : St := ⟨[(0, .ow 1)], [(1, some (.row 33 1 (wns l)))], 2⟩
def trL (y : List Nat) (k : Nat) : St := ⟨[(0, .ol 1 k)], [(1, some (.row 33 1 (wns y)))], 2⟩
theorem zeK (l : List Nat) (hl : l.length ≤ 9223372036854775800) : zan Tryz.prog 115 [.ow 0] [.row 33 1 (wns l)] (.fr 33 1 (wns (trim l))) [none] := by
 refine zap Tryz.func115 rfl (Nat.le_of_ble_eq_true rfl) rfl rfl ?_
 (repeat' (first | refine zad ?_ | (refine zac (fun hb => ?_) (fun hb => ?_) <;> (try (exfalso; omega))) | fail))
 refine zlv 0 (m := (wns l).length) (.inr ⟨rfl, rfl⟩) rfl (Nat.le_refl _) rfl rfl ?_
 rw [List.take_length]
 refine zas (fun o : Option (List Nat × Nat) => match o with | none => trO l | some p => trL p.1 p.2) (fun o => match o with | none => True | some p => trim (p.1.take p.2) = trim l ∧ p.2 ≤ p.1.length ∧ p.1.length ≤ l.length ∧ p.2 < l.length) (fun o => match o with | none => l.length | some p => p.2) none trivial (by (refine Le.mk [(1,1)] [] zaj zao zaq zal)) fun o ho => ?_
 have key : ∀ (x : List Nat), x.length ≤ l.length → (x = [] ∧ (wns x).length = 0) ∨ ∃ m a, x = m ++ [a] ∧ (wns x).length = m.length + 1 ∧ IntKind.i64.wrap (((wns x).length : Int) - 1) = (m.length : Int) ∧ (wns x)[m.length]? = some [.v (.int .u64 (a : Int))] := by
  intro x hx
  rcases zid x with rfl | ⟨m, a, rfl⟩
  ·exact .inl ⟨rfl, rfl⟩
  ·have hlen : (wns (m ++ [a])).length = m.length + 1 := by rw [zaW]; simp
   have : m.length + 1 ≤ l.length := by simpa using hx
   refine .inr ⟨m, a, rfl, hlen, by rw [hlen]; exact zlM _ (by omega), by rw [zbh (by simp)]; simp⟩
 cases o with
 | none =>
  change awp _ _ _ _ _ (trO l)
  rcases key l (Nat.le_refl _) with ⟨h1, h0⟩ | ⟨m, a, h1, hlen, hw, hg⟩
  ·rw [h1] at h0 ⊢
   (repeat' (first | refine zad ?_ | (refine zac (fun hb => ?_) (fun hb => ?_) <;> (try (exfalso; omega))) | fail))
   all_goals (first | exact zdl [] (.fr 1 _ _ _ rfl) rfl rfl (zak rfl) rfl | (exfalso; omega))
  ·have hml : m.length + 1 = l.length := by rw [h1]; simp
   by_cases ha : a = 0
   ·subst ha
    (repeat' (first | refine zad ?_ | (refine zac (fun hb => ?_) (fun hb => ?_) <;> (try (exfalso; omega))) | fail))
    all_goals (first | (exfalso; omega) | exact ⟨some (l, m.length), ⟨by show trim (l.take m.length) = trim l; rw [h1, zhL]; simp, by show m.length ≤ l.length; omega, Nat.le_refl _, by show m.length < l.length; omega⟩, by show Le _ _ (trL l m.length); (refine Le.mk [(1,1)] [] zaj zao zaq zal), by show m.length < l.length; omega⟩)
   ·have e : trim l = l := by rw [h1, zhK m a ha]
    rw [e]
    (repeat' (first | refine zad ?_ | (refine zac (fun hb => ?_) (fun hb => ?_) <;> (try (exfalso; omega))) | fail))
    all_goals (first | (exfalso; omega) | exact zdl [] (.fr 1 _ _ _ rfl) rfl rfl (zak rfl) rfl)
 | some p =>
  obtain ⟨y, k⟩ := p
  obtain ⟨hx, hk, hyl, hkl⟩ := ho
  dsimp only at hx hk hyl hkl
  change awp _ _ _ _ _ (trL y k)
  refine zlv 0 (m := k) (.inl rfl) rfl (by rw [zaW]; exact hk) rfl rfl ?_
  rw [zmx]
  have hxl : (y.take k).length = k := by rw [List.length_take]; omega
  generalize y.take k = x at *
  rcases key x (by omega) with ⟨h1, h0⟩ | ⟨m, a, h1, hlen, hw, hg⟩
  ·rw [← hx]
   rw [h1] at h0 ⊢
   (repeat' (first | refine zad ?_ | (refine zac (fun hb => ?_) (fun hb => ?_) <;> (try (exfalso; omega))) | fail))
   all_goals (first | exact zdl [] (.fr 2 _ _ _ rfl) rfl rfl (zak rfl) rfl | (exfalso; omega))
  ·have hml : m.length + 1 = k := by rw [← hxl, h1]; simp
   by_cases ha : a = 0
   ·subst ha
    (repeat' (first | refine zad ?_ | (refine zac (fun hb => ?_) (fun hb => ?_) <;> (try (exfalso; omega))) | fail))
    all_goals (first | (exfalso; omega) | exact ⟨some (x, m.length), ⟨by show trim (x.take m.length) = trim l; rw [← hx, h1, zhL]; simp, by show m.length ≤ x.length; omega, by show x.length ≤ l.length; omega, by show m.length < l.length; omega⟩, by show Le _ _ (trL x m.length); (refine Le.mk [(1,2)] [] zaj zao zaq zal), by show m.length < k; omega⟩)
   ·have e : trim x = x := by rw [h1, zhK m a ha]
    rw [← hx, e]
    (repeat' (first | refine zad ?_ | (refine zac (fun hb => ?_) (fun hb => ?_) <;> (try (exfalso; omega))) | fail))
    all_goals (first | (exfalso; omega) | exact zdl [] (.fr 2 _ _ _ rfl) rfl rfl (zak rfl) rfl)
end Go.Proofs.YtibedaeefnjjlaaGreat
