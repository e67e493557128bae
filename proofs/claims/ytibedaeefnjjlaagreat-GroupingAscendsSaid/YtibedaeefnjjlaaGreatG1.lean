/- Texts of the second layer in one: Base. -/
import Derived.Test.YtibedaeefnjjlaaGreatProg
import Derived.WalkKit
import Derived.WalkSpells
import Derived.WalkLawsBesides
import Derived.Laws.BitsAllLaws
import Derived.Laws.Rows
import Derived.Laws.OwnMore
import Derived.Lib.Hide
import Derived.KernelRfl
import Derived.Below
import Derived.Deep.AppendLies
import Derived.Deep.Draws
set_option maxRecDepth 100000
set_option linter.unusedVariables false
namespace Go.Proofs.YtibedaeefnjjlaaGreat
open Go.RowKit
def bv (l : List UInt8) : List Value := l.map fun b => .int .u8 (b.toNat : Int)
theorem bv_len (l : List UInt8) : (bv l).length = l.length := by simp [bv]
theorem bv_get (l : List UInt8) (k : Nat) (h : k < l.length) : (bv l)[k]? = some (.int .u8 ((l[k]'h).toNat : Int)) := by simp [bv, h]
theorem bv_take (a : List UInt8) (k : Nat) : bv (a.take k) = (bv a).take k := by simp [bv, List.map_take]
def Rd (w : World) (size : Nat) (A : Option Addr) (n : Nat) (vs : List Value) : Prop :=
 vs.length = n * size ∧ (0 < n → ∃ ad, A = some ad ∧ ∀ j u, vs[j]? = some u → w.cell? (ad.add j) = some u)
theorem add_add (a : Addr) (i j : Nat) : (a.add i).add j = a.add (i + j) := by
 unfold Addr.add
 by_cases hi : i = 0 <;> by_cases hj : j = 0 <;> simp [hi, hj, Nat.add_assoc]
theorem add_block (a : Addr) (n : Nat) : (a.add n).block = a.block := by unfold Addr.add; split <;> rfl
section
variable {w w' : World} {size n : Nat} {A : Option Addr} {vs : List Value}
theorem Rd.nil : Rd w size A 0 [] := ⟨by simp, fun h => absurd h (by omega)⟩
theorem Rd.keep (h : Rd w size A n vs) (hk : ∀ p : Addr, p.block < w.heap.size → w'.cell? p = w.cell? p) : Rd w' size A n vs :=
 ⟨h.1, fun hn => by
  obtain ⟨ad, e, hc⟩ := h.2 hn
  exact ⟨ad, e, fun j u hu => (hk _ (block_lt_of_cell (hc j u hu))).trans (hc j u hu)⟩⟩
theorem Rd.below (h : Rd w size A n vs) (hb : Below w.heap.size w w') : Rd w' size A n vs := h.keep fun _ hp => hb.cell hp
theorem Rd.drew (h : Rd w size A n vs) : Rd w.drew size A n vs := h
theorem Rd.drewN (h : Rd w size A n vs) (k : Nat) : Rd (w.drewN k) size A n vs := h
theorem Rd.alloc (h : Rd w size A n vs) (o : Obj) : Rd (w.alloc o) size A n vs := h.keep fun p hp => World.cell?_alloc_lt w o p hp
theorem Rd.lt (h : Rd w 1 A n vs) (hn : 0 < n) (ad : Addr) (e : A = some ad) : ad.block < w.heap.size := by
 obtain ⟨ad', e', hc⟩ := h.2 hn
 rw [e] at e'
 injection e' with e'
 subst e'
 have hl : 0 < vs.length := by have := h.1; omega
 have h1 := block_lt_of_cell (hc 0 _ (List.getElem?_eq_getElem hl))
 rwa [add_block] at h1
theorem Rd.at_ {k : Nat} (h : Rd w 1 A n vs) (hk : k < n) : ∃ ad u, A = some ad ∧ vs[k]? = some u ∧ w.cell? (ad.add k) = some u := by
 obtain ⟨ad, e, hc⟩ := h.2 (by omega)
 have hl : k < vs.length := by have := h.1; omega
 exact ⟨ad, vs[k], e, List.getElem?_eq_getElem hl, hc k _ (List.getElem?_eq_getElem hl)⟩
theorem Rd.byte {l : List UInt8} {k : Nat} (h : Rd w 1 A n (bv l)) (hk : k < n) : ∃ ad, ∃ hl : k < l.length, A = some ad ∧ w.cell? (ad.add k) = some (.int .u8 ((l[k]'hl).toNat : Int)) := by
 have hl : k < l.length := by have := h.1; rw [bv_len] at this; omega
 obtain ⟨ad, u, e, hu, hc⟩ := h.at_ hk
 rw [bv_get l k hl] at hu
 injection hu with hu
 exact ⟨ad, hl, e, by rw [hc, ← hu]⟩
theorem Rd.len {l : List UInt8} (h : Rd w 1 A n (bv l)) : n = l.length := by have := h.1; rw [bv_len] at this; omega
theorem Rd.cut (h : Rd w size A n vs) {k m cap : Nat} (hk : k ≤ m) (hm : m ≤ n) (hc : n ≤ cap) :
  Rd w size (if cap = k then A else A.map (·.add (k * size))) (m - k) ((vs.drop (k * size)).take ((m - k) * size)) := by
 have h1 := h.1
 have hms : m * size ≤ n * size := Nat.mul_le_mul_right _ hm
 have hks : k * size ≤ m * size := Nat.mul_le_mul_right _ hk
 refine ⟨by rw [List.length_take, List.length_drop, h1, Nat.sub_mul]; omega, fun hn => ?_⟩
 obtain ⟨ad, rfl, hcell⟩ := h.2 (by omega)
 rw [if_neg (by omega)]
 refine ⟨ad.add (k * size), rfl, fun j u hu => ?_⟩
 rw [add_add]
 refine hcell _ u ?_
 rw [List.getElem?_take] at hu
 split at hu
 ·rwa [List.getElem?_drop] at hu
 ·cases hu
theorem Rd.pre {l : List UInt8} (h : Rd w 1 A n (bv l)) (m : Nat) (hm : m ≤ n) : Rd w 1 A m (bv (l.take m)) := by
 have hl := h.len
 refine ⟨by rw [bv_len, List.length_take]; omega, fun hn => ?_⟩
 obtain ⟨ad, rfl, hcell⟩ := h.2 (by omega)
 refine ⟨ad, rfl, fun j u hu => ?_⟩
 refine hcell _ u ?_
 rw [bv_take, List.getElem?_take] at hu
 split at hu
 ·exact hu
 ·cases hu
end
def IsRow (k : IntKind) (w : World) (a : Option Addr) (len cap : Nat) (zs : List Int) : Prop :=
 (a = none ∧ len = 0 ∧ cap = 0 ∧ zs = []) ∨
 ∃ x, a = some x ∧ len ≤ cap ∧ cap ≤ maxLen ∧ zs.length = cap ∧ (∀ i, i < zs.length → w.cell? (x.add i) = some (.int k (zs.getD i 0))) ∧ ∀ n ∈ zs, (Lit.int k n).wf = true
theorem wf_range {k : IntKind} {x : Int} (h : (Lit.int k x).wf = true) : k.min ≤ x ∧ x ≤ k.max := by
 simpa [Lit.wf] using h
theorem wf_u8 {x : Int} (h : (Lit.int .u8 x).wf = true) : 0 ≤ x ∧ x < 256 := by
 have := wf_range h
 simp [IntKind.min, IntKind.max, IntKind.signed, IntKind.bits] at this
 omega
theorem wf_i64 {x : Int} (h : (Lit.int .i64 x).wf = true) : -9223372036854775808 ≤ x ∧ x < 9223372036854775808 := by
 have := wf_range h
 simp [IntKind.min, IntKind.max, IntKind.signed, IntKind.bits] at this
 omega
theorem IsRow.vals {k : IntKind} {w : World} {a : Option Addr} {len cap : Nat} {zs : List Int} (h : IsRow k w a len cap zs) :
  len ≤ cap ∧ (zs.take len).length = len ∧ (∀ x ∈ zs.take len, (Lit.int k x).wf = true) ∧ Rd w 1 a len ((zs.take len).map (Value.int k)) := by
 rcases h with ⟨rfl, rfl, rfl, rfl⟩ | ⟨x, rfl, h1, h2, h3, h4, h5⟩
 ·exact ⟨Nat.le_refl _, rfl, by simp, Rd.nil⟩
 ·refine ⟨h1, by rw [List.length_take]; omega, fun y hy => h5 y (List.mem_of_mem_take hy), by rw [List.length_map, List.length_take]; omega, fun _ => ⟨x, rfl, fun j u hu => ?_⟩⟩
  rw [List.getElem?_map, List.getElem?_take] at hu
  split at hu
  ·have hj : j < zs.length := by omega
   rw [h4 j hj]
   simp [hj] at hu
   rw [← hu]
   simp [List.getD, hj]
  ·cases hu
theorem IsRow.bytes {w : World} {a : Option Addr} {len cap : Nat} {zs : List Int} (h : IsRow .u8 w a len cap zs) :
  ∃ l : List UInt8, l.length = len ∧ len ≤ cap ∧ Rd w 1 a len (bv l) := by
 obtain ⟨h1, h2, h3, h4⟩ := h.vals
 refine ⟨(zs.take len).map fun x => UInt8.ofNat x.toNat, by rw [List.length_map, h2], h1, ?_⟩
 have : bv ((zs.take len).map fun x => UInt8.ofNat x.toNat) = (zs.take len).map (Value.int .u8) := by
  rw [bv, List.map_map]
  apply List.map_congr_left
  intro x hx
  have hw := wf_u8 (h3 x hx)
  have : (((UInt8.ofNat x.toNat).toNat : Nat) : Int) = x := by
   rw [UInt8.toNat_ofNat']
   omega
  simp only [Function.comp, this]
 rw [this]
 exact h4
end Go.Proofs.YtibedaeefnjjlaaGreat
