/- Texts of the second layer in one: Ab27 Un Wd1 Rc Ab28 Ab29 Ab30. -/
import Derived.Test.YtibedaeefnjjlaaGreatG4
import Derived.Test.YtibedaeefnjjlaaGreatAu
set_option maxRecDepth 100000
set_option linter.unusedVariables false
set_option linter.unusedSimpArgs false
namespace Go.Ab
open Go.RowKit
theorem zlv (t : Nat) {P : Program} {L : Ln} {N : Nat} {c : Code} {Q : Exit → St → Prop} {E : List (Nat × AV)} {H : List (Nat × Option Blk)} {n i m T sz : Nat} {es : List (List RV)} (ht : get E t = .ol i m ∨ (get E t = .ow i ∧ m = es.length)) (hi : getH H i = some (.row T sz es)) (hm : m ≤ es.length) (hL : Nat.ble L.n n = true) (hloc : (Nat.blt i L.m || Nat.ble L.n i) = true)
  (h : awp P L N c Q ⟨(t, .ow n) :: E, (n, some (.row T sz (es.take m))) :: (i, none) :: H, n + 1⟩) : awp P L N c Q ⟨E, H, n⟩ := by
 intro C h1 h2 h3 a w ⟨Z, S⟩
 have hD : ∀ i, (fun i => i < (⟨E, H, n⟩ : St).nx) i → i ≠ n := fun i hi e => by subst e; exact absurd hi (Nat.lt_irrefl _)
 have hne : ∀ i b, getH H i = some b → i ≠ n := fun i b hi => hD i (S.holds i b hi).2.1
 have hin := hne i _ hi
 obtain ⟨v, hv⟩ : ∃ v, v = a.tmps.getD t undef := ⟨_, rfl⟩
 have hheld := (S.holds i _ hi).1
 -- the slot's value: its block is that of i; and it is a row
 have hval : (v = Z i ∧ m = es.length) ∨ (∃ g m' cap, Z i = .slice (some ⟨g, 0, none⟩) m' cap ∧ v = .slice (some ⟨g, 0, none⟩) m cap) := by
  have := S.slots t
  rw [← hv] at this
  rcases ht with ht | ⟨ht, hml⟩
  ·rw [show St.envF ⟨E, H, n⟩ t = get E t from rfl, ht, AV.rep] at this
   exact .inr this
  ·rw [show St.envF ⟨E, H, n⟩ t = get E t from rfl, ht, AV.rep] at this
   exact .inl ⟨this, hml⟩
 have hblk : ∀ x, blk v = some x → blk (Z i) = some x := by
  intro x hx
  rcases hval with ⟨e, _⟩ | ⟨g, m', cap, e1, e2⟩
  ·rw [← e]; exact hx
  ·rw [e1]; rw [e2] at hx; exact hx
 let Z' : Nat → Value := fun j => if j = n then v else Z j
 have hz : ∀ j, j ≠ n → Z' j = Z j := fun j hj => if_neg hj
 have hzn : Z' n = v := if_pos rfl
 have hH : ∀ j, St.HF ⟨(t, .ow n) :: E, (n, some (.row T sz (es.take m))) :: (i, none) :: H, n + 1⟩ j = if n = j then some (.row T sz (es.take m)) else if i = j then none else getH H j := fun j => by
  show getH _ j = _
  rw [zew, zew]
 have hB : ∀ x, x < w.heap.size → Own C (St.HF ⟨(t, .ow n) :: E, (n, some (.row T sz (es.take m))) :: (i, none) :: H, n + 1⟩) Z' x → Own C (getH H) Z x := by
  rintro x _ (h0 | ⟨j, b, hj, hb⟩)
  ·exact .inl h0
  ·rw [hH] at hj
   split at hj
   ·rename_i e; subst e; rw [hzn] at hb; exact .inr ⟨i, _, hi, hblk x hb⟩
   ·split at hj
    ·cases hj
    ·rename_i e e2; rw [hz j (fun h => e h.symm)] at hb; exact .inr ⟨j, b, hj, hb⟩
 have hnew : held Z' (Own C (St.HF ⟨(t, .ow n) :: E, (n, some (.row T sz (es.take m))) :: (i, none) :: H, n + 1⟩) Z') w n (.row T sz (es.take m)) := by
  obtain ⟨us, ⟨o1, o2⟩, k2, k3⟩ := hheld
  have hfl := zbf sz es k3 m
  refine ⟨us.take (m * sz), ?_, ?_, fun e he => k3 e (List.mem_of_mem_take he)⟩
  ·rw [hzn, List.length_take, Nat.min_eq_left hm]
   refine ⟨by rw [List.length_take, o1]; exact Nat.min_eq_left (Nat.mul_le_mul_right _ hm), ?_⟩
   rcases hval with ⟨e, hml⟩ | ⟨g, m', cap, e1, e2⟩
   ·rcases o2 with ⟨e3, e4⟩ | ⟨g, cap, cur, e3, e4, e5, e6, e7, e8, e9⟩
    ·exact .inl ⟨e.trans e3, by omega⟩
    ·refine .inr ⟨g, cap, cur, by rw [e, e3, hml], e4, e5, by omega, e7, e8, ?_⟩
     rw [← e9, List.take_take, Nat.min_eq_left (Nat.mul_le_mul_right _ hm)]
   ·rcases o2 with ⟨e3, e4⟩ | ⟨g', cap', cur, e3, e4, e5, e6, e7, e8, e9⟩
    ·rw [e3] at e1; cases e1
    ·rw [e3] at e1
     injection e1 with e1 e1' e1''
     injection e1 with e1
     injection e1 with e1
     subst e1 e1''
     refine .inr ⟨g', cap', cur, e2, e4, e5, by omega, e7, e8, ?_⟩
     rw [← e9, List.take_take, Nat.min_eq_left (Nat.mul_le_mul_right _ hm)]
  ·rw [hfl.2]
   exact (k2.take _).mono (Upto.refl _) hB
 refine h C h1 h2 h3 a w ⟨Z', S.size, S.defers, S.frame, S.m0, fun u => ?_, fun u q hq => ?_, fun j b hj => ?_, fun j j' b c hj hj' hjj x hx => ?_, fun j b x hj hx => ?_, S.lm, fun q hq => ?_⟩
 ·show (get ((t, .ow n) :: E) u).rep _ _ _ _
  by_cases hu : t = u
  ·subst hu
   have e : get ((t, AV.ow n) :: E) t = .ow n := by simp [get]
   rw [e, AV.rep, hzn, hv]
  ·have e : get ((t, AV.ow n) :: E) u = get E u := by
    have : Nat.beq t u = false := by cases hb : Nat.beq t u with
     | false => rfl
     | true => exact absurd (Nat.eq_of_beq_eq_true hb) hu
    simp [get, this]
   rw [e]
   exact AV.rep_mono (Upto.refl _) hB _ (fun i hi => hz i (hD i (S.ids u i hi))) _ (S.slots u)
 ·by_cases hu : t = u
  ·subst hu
   have e : St.envF ⟨(t, AV.ow n) :: E, (n, some (.row T sz (es.take m))) :: (i, none) :: H, n + 1⟩ t = .ow n := by simp [St.envF, get]
   rw [e] at hq
   have : q = n := by simpa [AV.ids] using hq
   subst this
   exact Nat.lt_succ_self _
  ·have e : St.envF ⟨(t, AV.ow n) :: E, (n, some (.row T sz (es.take m))) :: (i, none) :: H, n + 1⟩ u = get E u := by
    have : Nat.beq t u = false := by cases hb : Nat.beq t u with
     | false => rfl
     | true => exact absurd (Nat.eq_of_beq_eq_true hb) hu
    simp [St.envF, get, this]
   rw [e] at hq
   exact Nat.lt_succ_of_lt (S.ids u q hq)
 ·rw [hH] at hj
  split at hj
  ·rename_i e
   subst e
   injection hj with hj
   subst hj
   exact ⟨hnew, Nat.lt_succ_self _, fun q hq => by simp [Blk.ids] at hq⟩
  ·split at hj
   ·cases hj
   ·obtain ⟨g1, g2, g3⟩ := S.holds j b hj
    exact ⟨g1.keep (Upto.refl _) hB (hz j (hne j b hj)) (fun q hq => hz q (hD q (g3 q hq))) (fun _ _ => rfl), Nat.lt_succ_of_lt g2, fun q hq => Nat.lt_succ_of_lt (g3 q hq)⟩
 ·rw [hH] at hj hj'
  split at hj
  ·rename_i e
   subst e
   rw [hzn] at hx
   split at hj'
   ·rename_i e; exact absurd e hjj
   ·split at hj'
    ·cases hj'
    ·rename_i e e2
     rw [hz j' (hne j' c hj')]
     exact S.dist i j' _ c hi hj' e2 x (hblk x hx)
  ·split at hj
   ·cases hj
   ·rename_i e0 e2
    rw [hz j (hne j b hj)] at hx
    split at hj'
    ·rename_i e
     subst e
     rw [hzn]
     intro hx'
     exact S.dist j i b _ hj hi (fun h => e2 h.symm) x hx (hblk x hx')
    ·split at hj'
     ·cases hj'
     ·rw [hz j' (hne j' c hj')]
      exact S.dist j j' b c hj hj' hjj x hx
 ·rw [hH] at hj
  split at hj
  ·rename_i e
   subst e
   rw [hzn] at hx
   have hx' := hblk x hx
   rw [Bool.or_eq_true, zbE, zcf] at hloc
   rcases hloc with hl | hl
   ·have hl' : i < C.ln.m := by rw [h2]; exact hl
    have := (S.zl i (Nat.lt_of_lt_of_le hl' S.lm)).1
    exact .inr (.inr ⟨i, hl', by rw [← this]; exact hx'⟩)
   ·rcases S.fresh i _ x hi hx' with hf | hf
    ·exfalso
     have hl' : C.nl ≤ i := by show C.ln.n ≤ i; rw [h2]; exact hl
     omega
    ·exact .inr hf
  ·split at hj
   ·cases hj
   ·rw [hz j (hne j b hj)] at hx
    exact S.fresh j b x hj hx
 ·obtain ⟨g1, g2⟩ := S.zl q hq
  exact ⟨(hz q (hD q g2)).trans g1, Nat.lt_succ_of_lt g2⟩
section
variable {P : Program} {L : Ln} {N : Nat} {ops : Array Oper} {chk : List (Nat × Sp) → Bool} {Q : St → Prop} {S : St} {tr : List (Nat × Sp)} {l : List Oper} {d : Option Tmp} {ty : TypeId} {pos : String} {af : Array Edge} {g : Option (Nat × Bool)} {t t2 : TypeId} {x y : Operand}
theorem zgD {t t2 : TypeId} (h1 : P.underlying t = some (.slice (P.elem t))) (h2 : P.underlying t2 = some (.slice (P.elem t2))) (u v : Value) (w : World) : (Builtin.append_ #[t, t2] ty #[u, v]).run P w = (Builtin.append_ #[t, t] ty #[u, v]).run P w := by
 cases u <;> simp [Builtin.append_, run_underlying h1, run_underlying h2]
theorem zbI (h1 : P.underlying t = some (.slice (P.elem t))) (h2 : P.underlying t2 = some (.slice (P.elem t2)))
  (h : wpA P L N ops chk Q (⟨d, .call { callee := .builtin .append, args := #[x, y], argTypes := #[t, t] }, ty, pos, af, g⟩ :: l) S tr) :
  wpA P L N ops chk Q (⟨d, .call { callee := .builtin .append, args := #[x, y], argTypes := #[t, t2] }, ty, pos, af, g⟩ :: l) S tr := by
 obtain ⟨sp, hs, hr⟩ := h
 refine ⟨sp, ⟨hs.dst, hs.want, fun hrun a w Z M hM ho hh hd => ?_, hs.skip, hs.sp⟩, hr⟩
 have := hs.ok hrun a w Z M hM ho hh hd
 unfold Exec at this ⊢
 have e : (execOp a.eval ⟨d, .call { callee := .builtin .append, args := #[x, y], argTypes := #[t, t2] }, ty, pos, af, g⟩).run P w = (execOp a.eval ⟨d, .call { callee := .builtin .append, args := #[x, y], argTypes := #[t, t] }, ty, pos, af, g⟩).run P w := by
  simp only [execOp, resolve, invoke, builtin, Sem.run_bind, Sem.run_pure, Result.andThen_ok, List.map_toArray, List.map_cons, List.map_nil, zgD h1 h2]
 rw [e]
 exact this
end
theorem zia (f g : Nat → Option (Nat × Nat)) : ∀ (vs : List (Nat × Value)) (us : Array Value), (∀ p ∈ vs, f p.1 = g p.1) → Instr.fill f us vs = Instr.fill g us vs
 | [], us, _ => rfl
 | (i, v) :: vs, us, h => by
  have h0 := h (i, v) (by simp)
  simp only at h0
  rw [Instr.fill, Instr.fill, h0]
  cases g i with
  | none => rfl
  | some q =>
   obtain ⟨off, size⟩ := q
   simp only
   split
   ·rfl
   ·exact zia f g vs _ (fun p hp => h p (by simp [hp]))
theorem zmN {P : Program} {E : List (Nat × AV)} {H : Nat → Option Blk} {d : Option Tmp} {ty : TypeId} {pos : String} {af : Array Edge} {g : Option (Nat × Bool)} {t : TypeId} {n e sz : Nat} {zs : List Value} [hT : ArT P t n e sz] [hz : ZrT P t zs]
  {parts : Array (Nat × Operand)} {cs : List AV} (hf : ziU ((List.range n).map fun i => (i * sz, sz)) (zs.map fun u => .r (.v u)) (parts.toList.map fun p => (p.1, evA (get E) p.2)) = some cs) (ho : (parts.toList.all fun p => zgx [] (evA (get E) p.2)) = true) (hlt : (parts.toList.all fun p => Nat.blt p.1 n) = true) :
  zax P ⟨d, .build t parts, ty, pos, af, g⟩ (get E) H [] (.ag cs) := by
 refine ⟨fun i b h => by simp at h, fun i hi => .inl ?_, fun a w Z M hr hh => ?_⟩
 ·rw [AV.ids] at hi
  refine zg3 _ (fun i => ∃ t, i ∈ (get E t).ids) _ _ _ (fun i hi => by rw [ze0] at hi; cases hi) (fun p hp i hi => ?_) hf i hi
  obtain ⟨q, hq, rfl⟩ := List.mem_map.1 hp
  rcases zcl rfl i hi with h | ⟨_, _, h, _⟩
  ·exact h
  ·cases h
 ·have h1 := hz.ok
  obtain ⟨tu, ts⟩ := ArT.und (P := P) (t := t) (n := n) (e := e) (sz := sz)
  cases hi : P.info? t with
  | none => rw [hi] at h1; cases h1
  | some it =>
   rw [hi] at h1
   simp only [Option.map_some, Option.some.injEq] at h1
   cases hzz : it.zero with
   | none => rw [hzz] at h1; cases h1
   | some z =>
    rw [hzz] at h1
    simp only [Option.map_some, Option.some.injEq] at h1
    obtain ⟨us', h3, h4⟩ := ziV (Z := Z) (B := M) (w := w) ((List.range n).map fun i => (i * sz, sz)) _ (parts.toList.map fun p => (p.1, a.eval p.2)) _ cs z.cells (by simp) (fun k p v hk hv => by
     rw [List.getElem?_map] at hk hv
     cases hq : parts.toList[k]? with
     | none => rw [hq] at hk; cases hk
     | some q =>
      rw [hq] at hk hv
      simp only [Option.map_some, Option.some.injEq] at hk hv
      subst hk hv
      have hmem := List.mem_of_getElem? hq
      refine ⟨rfl, zl8 (List.all_eq_true.1 ho q hmem) hh (hr q.2 ?_)⟩
      show q.2 ∈ ((parts.toList.map (·.2)).toArray).toList
      simp only [List.toList_toArray]
      exact List.mem_map.2 ⟨q, hmem, rfl⟩) (by rw [h1]; exact zfa zs) hf
    have hcg : Instr.fill (fun i => some (i * sz, sz)) z.cells (parts.toList.map fun p => (p.1, a.eval p.2)) = some us' := by
     rw [← h3]
     refine zia _ _ _ _ fun p hp => ?_
     obtain ⟨q, hq, rfl⟩ := List.mem_map.1 hp
     have := zbE.1 (List.all_eq_true.1 hlt q hq)
     simp [this]
    have hsz := run_sizeOf (P := P) ts w
    have hzv : (zeroValue t).run P w = .ok z w := by simp [zeroValue, typeInfo, hi, hzz]
    have he : (parts.map fun (i, x) => (i, a.eval x)) = parts.map fun p => (p.1, a.eval p.2) := rfl
    have hb : (Instr.build t (parts.map fun p => (p.1, a.eval p.2))).run P w = .ok (.agg us') w := by
     simp only [Instr.build, Sem.run_bind, hzv, Result.andThen_ok, run_underlying tu, hsz, Array.toList_map, hcg, Sem.run_pure]
    refine ⟨.agg us', ?_, by rw [AV.rep]; exact ⟨us', rfl, h4⟩⟩
    simp only [execOp, he, Sem.run_bind, hb, Result.andThen_ok, Sem.run_pure]
end Go.Ab
namespace Go.Proofs.YtibedaeefnjjlaaGreat
def I64 (x : Int) : Prop := -9223372036854775808 ≤ x ∧ x < 9223372036854775808
def allR (n : Nat) (f : Nat → Bool) : Bool := (List.range n).all f
theorem zjx {n : Nat} {f : Nat → Bool} (h : ∀ i, i < n → f i = true) : true = allR n f := by
 unfold allR
 exact (List.all_eq_true.2 fun i hi => h i (List.mem_range.1 hi)).symm
theorem zmB {n : Nat} {f : Nat → Bool} (i : Nat) (h : i < n) (hf : f i = false) : false = allR n f := by
 cases hx : allR n f with
 | false => rfl
 | true =>
  have := List.all_eq_true.1 hx i (List.mem_range.2 h)
  rw [hf] at this; cases this
theorem zhZ {α : Type} (l : List α) (k : Nat) (d : α) (h : k < l.length) : l.take (k + 1) = l.take k ++ [l.getD k d] := by
 rw [List.take_succ_eq_append_getElem h]
 simp [h]
end Go.Proofs.YtibedaeefnjjlaaGreat
namespace Go.Wd
abbrev B64 : Nat := 18446744073709551616
def val : List Nat → Nat
 | [] => 0
 | a :: l => a + B64 * val l
def ws : Nat → Nat → List Nat
 | _, 0 => []
 | n, k + 1 => n % B64 :: ws (n / B64) k
def Wds (l : List Nat) : Prop := ∀ a ∈ l, a < B64
theorem zbV : ∀ (k n : Nat), (ws n k).length = k
 | 0, _ => rfl
 | k + 1, n => by rw [ws, List.length_cons, zbV k]
theorem zdp : ∀ (k n : Nat), Wds (ws n k)
 | 0, _ => by intro a h; cases h
 | k + 1, n => by
  intro a h
  rw [ws] at h
  rcases List.mem_cons.1 h with rfl | h
  ·unfold B64; omega
  ·exact zdp k _ a h
theorem zcX : ∀ (k n : Nat), n < B64 ^ k → val (ws n k) = n
 | 0, n, h => by have : n = 0 := by simpa using h
                 subst this; rfl
 | k + 1, n, h => by
  rw [ws, val, zcX k (n / B64) (by rw [Nat.div_lt_iff_lt_mul (by unfold B64; omega)]; rw [Nat.pow_succ] at h; exact h)]
  exact Nat.mod_add_div n B64
theorem ziE : ∀ (l : List Nat), Wds l → ws (val l) l.length = l
 | [], _ => rfl
 | a :: l, h => by
  have ha : a < B64 := h a (by simp)
  have h1 : (a + B64 * val l) % B64 = a := by unfold B64 at *; omega
  have h2 : (a + B64 * val l) / B64 = val l := by unfold B64 at *; omega
  rw [val, List.length_cons, ws, h1, h2, ziE l (fun x hx => h x (by simp [hx]))]
theorem zfj : ∀ (l : List Nat), Wds l → val l < B64 ^ l.length
 | [], _ => by simp [val]
 | a :: l, h => by
  have ha : a < B64 := h a (by simp)
  have := zfj l (fun x hx => h x (by simp [hx]))
  rw [val, List.length_cons, Nat.pow_succ]
  have : B64 * (val l + 1) ≤ B64 * B64 ^ l.length := Nat.mul_le_mul (Nat.le_refl _) this
  rw [Nat.mul_comm (B64 ^ l.length)]
  rw [Nat.mul_add] at this
  omega
theorem zdb : ∀ (l m : List Nat), val (l ++ m) = val l + B64 ^ l.length * val m
 | [], m => by simp [val]
 | a :: l, m => by
  rw [List.cons_append, val, val, zdb l m, List.length_cons, Nat.pow_succ, Nat.mul_add]
  rw [← Nat.mul_assoc, Nat.mul_comm B64 (B64 ^ l.length)]
  omega
theorem zhP : ∀ k, val (List.replicate k 0) = 0
 | 0 => rfl
 | k + 1 => by rw [List.replicate_succ, val, zhP k]; rfl
theorem zdo : ∀ (l : List Nat) (p v : Nat), p < l.length → val (l.set p v) + B64 ^ p * l.getD p 0 = val l + B64 ^ p * v
 | [], p, v, h => by simp at h
 | a :: l, 0, v, h => by simp [val]; omega
 | a :: l, p + 1, v, h => by
  have ih := zdo l p v (by simpa using h)
  rw [List.set_cons_succ, val, val, List.getD_cons_succ, Nat.pow_succ]
  have e1 : B64 ^ p * B64 * l.getD p 0 = B64 * (B64 ^ p * l.getD p 0) := by rw [Nat.mul_comm (B64 ^ p), Nat.mul_assoc]
  have e2 : B64 ^ p * B64 * v = B64 * (B64 ^ p * v) := by rw [Nat.mul_comm (B64 ^ p), Nat.mul_assoc]
  rw [e1, e2, Nat.add_assoc, ← Nat.mul_add, ih, Nat.mul_add]
  omega
theorem Wds.set {l : List Nat} (h : Wds l) (p : Nat) {v : Nat} (hv : v < B64) : Wds (l.set p v) := by
 intro a ha
 rcases List.mem_or_eq_of_mem_set ha with h' | rfl
 ·exact h a h'
 ·exact hv
theorem Wds.get {l : List Nat} (h : Wds l) (p : Nat) : l.getD p 0 < B64 := by
 rcases Nat.lt_or_ge p l.length with hp | hp
 ·have : l.getD p 0 = l[p] := by simp [hp]
  rw [this]; exact h _ (List.getElem_mem hp)
 ·have : l.getD p 0 = 0 := by simp [hp]
  rw [this]; unfold B64; omega
def tw (n : Nat) : List Nat := if h : n = 0 then [] else n % B64 :: tw (n / B64)
termination_by n
decreasing_by exact Nat.div_lt_self (by omega) (by unfold B64; omega)
theorem zcw : tw 0 = [] := by rw [tw]; rfl
theorem zen {n : Nat} (h : n ≠ 0) : tw n = n % B64 :: tw (n / B64) := by rw [tw, dif_neg h]
theorem za0 (n : Nat) : val (tw n) = n := by
 induction n using Nat.strongRecOn with
 | ind n ih =>
  by_cases h : n = 0
  ·subst h; rw [zcw]; rfl
  ·rw [zen h, val, ih (n / B64) (Nat.div_lt_self (by omega) (by unfold B64; omega))]
   exact Nat.mod_add_div n B64
theorem zbn (n : Nat) : Wds (tw n) := by
 induction n using Nat.strongRecOn with
 | ind n ih =>
  by_cases h : n = 0
  ·subst h; rw [zcw]; intro a h; cases h
  ·rw [zen h]
   intro a ha
   rcases List.mem_cons.1 ha with rfl | ha
   ·unfold B64; omega
   ·exact ih (n / B64) (Nat.div_lt_self (by omega) (by unfold B64; omega)) a ha
theorem zbw (k : Nat) : ∀ n, n < B64 ^ k → (tw n).length ≤ k := by
 induction k with
 | zero => intro n h; have : n = 0 := by simpa using h
           subst this; rw [zcw]; exact Nat.le_refl _
 | succ k ih =>
  intro n h
  by_cases h0 : n = 0
  ·subst h0; rw [zcw]; simp
  ·rw [zen h0, List.length_cons]
   have := ih (n / B64) (by rw [Nat.div_lt_iff_lt_mul (by unfold B64; omega)]; rw [Nat.pow_succ] at h; exact h)
   omega
theorem zf1 (k : Nat) (n : Nat) (h : (tw n).length ≤ k) : n < B64 ^ k := by
 have h1 := zfj (tw n) (zbn n)
 rw [za0] at h1
 exact Nat.lt_of_lt_of_le h1 (Nat.pow_le_pow_right (by unfold B64; omega) h)
def trim : List Nat → List Nat
 | [] => []
 | a :: l => match trim l with
  | [] => if a = 0 then [] else [a]
  | b :: m => a :: b :: m
theorem zcK : ∀ (l : List Nat), Wds l → trim l = tw (val l)
 | [], _ => by rw [trim, val, zcw]
 | a :: l, h => by
  have ha : a < B64 := h a (by simp)
  have h1 : (a + B64 * val l) % B64 = a := by unfold B64 at *; omega
  have h2 : (a + B64 * val l) / B64 = val l := by unfold B64 at *; omega
  have ih := zcK l (fun x hx => h x (by simp [hx]))
  rw [trim, ih, val]
  by_cases hv : val l = 0
  ·rw [hv, zcw]
   by_cases h0 : a = 0
   ·subst h0; rw [if_pos rfl]; rw [Nat.mul_zero, Nat.add_zero, zcw]
   ·rw [if_neg h0, Nat.mul_zero, Nat.add_zero, zen h0, Nat.mod_eq_of_lt ha, Nat.div_eq_of_lt ha, zcw]
  ·have hn : a + B64 * val l ≠ 0 := by unfold B64; omega
   rw [zen hn, h1, h2]
   have : ∃ b m, tw (val l) = b :: m := by rw [zen hv]; exact ⟨_, _, rfl⟩
   obtain ⟨b, m, hb⟩ := this
   rw [hb]
theorem zhL (l : List Nat) : trim (l ++ [0]) = trim l := by
 induction l with
 | nil => rfl
 | cons a l ih => rw [List.cons_append, trim, ih, trim]
theorem zhK (l : List Nat) (a : Nat) (h : a ≠ 0) : trim (l ++ [a]) = l ++ [a] := by
 induction l with
 | nil => rw [List.nil_append, trim, trim]; simp only []; rw [if_neg h]
 | cons b l ih =>
  rw [List.cons_append, trim, ih]
  cases l with
  | nil => rfl
  | cons c l => rfl
def mIn (x : Nat) (b : List Nat) (i : Nat) : Nat → Nat → Nat → List Nat → Nat × List Nat
 | 0, _, c, l => (c, l)
 | j + 1, k, c, l => mIn x b i j (k + 1) ((x * b.getD k 0 + l.getD (i + k) 0 + c) / B64) (l.set (i + k) ((x * b.getD k 0 + l.getD (i + k) 0 + c) % B64))
def mOut (a b : List Nat) : Nat → Nat → List Nat → List Nat
 | 0, _, l => l
 | j + 1, i, l => mOut a b j (i + 1) ((mIn (a.getD i 0) b i b.length 0 0 l).2.set (i + b.length) (mIn (a.getD i 0) b i b.length 0 0 l).1)
theorem zqg {x y s c : Nat} (hx : x < B64) (hy : y < B64) (hs : s < B64) (hc : c < B64) : (x * y + s + c) / B64 < B64 := by
 rw [Nat.div_lt_iff_lt_mul (by unfold B64; omega)]
 have h1 : x * y ≤ (B64 - 1) * (B64 - 1) := Nat.mul_le_mul (by omega) (by omega)
 have h2 : (B64 - 1) * (B64 - 1) + (B64 - 1) + (B64 - 1) < B64 * B64 := by decide
 omega
theorem zfd : ∀ (b : List Nat) (k : Nat), k < b.length → val (b.drop k) = b.getD k 0 + B64 * val (b.drop (k + 1))
 | [], k, h => by simp at h
 | a :: b, 0, _ => by simp [val]
 | a :: b, k + 1, h => by rw [List.drop_succ_cons, zfd b k (by simpa using h), List.getD_cons_succ, List.drop_succ_cons]
theorem zog (x : Nat) (b : List Nat) (i : Nat) (hx : x < B64) (hb : Wds b) : ∀ (j k c : Nat) (l : List Nat), j + k = b.length → i + b.length ≤ l.length → Wds l → c < B64 →
  (mIn x b i j k c l).1 < B64 ∧ Wds (mIn x b i j k c l).2 ∧ (mIn x b i j k c l).2.length = l.length ∧ (∀ p, i + b.length ≤ p → (mIn x b i j k c l).2.getD p 0 = l.getD p 0) ∧
  val (mIn x b i j k c l).2 + B64 ^ (i + b.length) * (mIn x b i j k c l).1 = val l + B64 ^ (i + k) * c + B64 ^ (i + k) * (x * val (b.drop k))
 | 0, k, c, l, hj, hl, hw, hc => by
  have hk : k = b.length := by omega
  subst hk
  refine ⟨hc, hw, rfl, fun p _ => rfl, ?_⟩
  simp [mIn, val]
 | j + 1, k, c, l, hj, hl, hw, hc => by
  have hr := zqg hx (hb.get k) (hw.get (i + k)) hc
  have hs : (x * b.getD k 0 + l.getD (i + k) 0 + c) % B64 < B64 := by unfold B64; omega
  obtain ⟨h1, h2, h3, h4, h5⟩ := zog x b i hx hb j (k + 1) _ (l.set (i + k) ((x * b.getD k 0 + l.getD (i + k) 0 + c) % B64)) (by omega) (by rw [List.length_set]; exact hl) (hw.set (i + k) hs) hr
  rw [mIn]
  refine ⟨h1, h2, by rw [h3, List.length_set], fun p hp => ?_, ?_⟩
  ·rw [h4 p hp]
   have : i + k ≠ p := by omega
   simp [List.getD_eq_getElem?_getD, List.getElem?_set, this]
  ·rw [h5]
   have hv := zdo l (i + k) ((x * b.getD k 0 + l.getD (i + k) 0 + c) % B64) (by omega)
   have hd := zfd b k (by omega)
   rw [hd]
   have hm := Nat.mod_add_div (x * b.getD k 0 + l.getD (i + k) 0 + c) B64
   generalize (x * b.getD k 0 + l.getD (i + k) 0 + c) % B64 = r at *
   generalize (x * b.getD k 0 + l.getD (i + k) 0 + c) / B64 = q at *
   generalize val (b.drop (k + 1)) = V at *
   generalize b.getD k 0 = y at *
   generalize l.getD (i + k) 0 = s at *
   rw [show i + (k + 1) = (i + k) + 1 from rfl, Nat.pow_succ]
   generalize B64 ^ (i + k) = M at *
   have e1 : M * (x * y + s + c) = M * (r + B64 * q) := by rw [hm]
   have e2 : M * (x * (y + B64 * V)) = M * (x * y) + M * B64 * (x * V) := by rw [Nat.mul_add, Nat.mul_add, Nat.mul_left_comm x B64 V, ← Nat.mul_assoc M B64]
   have e3 : M * (r + B64 * q) = M * r + M * B64 * q := by rw [Nat.mul_add, ← Nat.mul_assoc]
   rw [e2]
   rw [e3, Nat.mul_add, Nat.mul_add] at e1
   omega
theorem zlX (a b : List Nat) (ha : Wds a) (hb : Wds b) : ∀ (j i : Nat) (l : List Nat), j + i = a.length → a.length + b.length ≤ l.length → Wds l → (∀ p, i + b.length ≤ p → l.getD p 0 = 0) →
  Wds (mOut a b j i l) ∧ (mOut a b j i l).length = l.length ∧ val (mOut a b j i l) = val l + B64 ^ i * (val (a.drop i) * val b)
 | 0, i, l, hj, hl, hw, hz => by
  have : i = a.length := by omega
  subst this
  simp [mOut, val, hw]
 | j + 1, i, l, hj, hl, hw, hz => by
  obtain ⟨h1, h2, h3, h4, h5⟩ := zog (a.getD i 0) b i (ha.get i) hb b.length 0 0 l (by omega) (by omega) hw (by decide)
  rw [mOut]
  generalize mIn (a.getD i 0) b i b.length 0 0 l = R at *
  obtain ⟨c, m⟩ := R
  dsimp only at *
  obtain ⟨g1, g2, g3⟩ := zlX a b ha hb j (i + 1) (m.set (i + b.length) c) (by omega) (by rw [List.length_set]; omega) (h2.set _ h1) (fun p hp => by
   have : i + b.length ≠ p := by omega
   have e := h4 p (by omega)
   rw [hz p (by omega)] at e
   simpa [List.getD_eq_getElem?_getD, List.getElem?_set, this] using e)
  refine ⟨g1, by rw [g2, List.length_set, h3], ?_⟩
  rw [g3]
  have hv := zdo m (i + b.length) c (by omega)
  rw [h4 _ (Nat.le_refl _), hz _ (Nat.le_refl _)] at hv
  have hd := zfd a i (by omega)
  rw [hd]
  simp only [List.drop_zero, Nat.add_zero, Nat.mul_zero] at h5 hv
  rw [Nat.pow_succ]
  generalize val (a.drop (i + 1)) = V at *
  generalize a.getD i 0 = x at *
  generalize B64 ^ (i + b.length) = K at *
  generalize B64 ^ i = M at *
  have e2 : M * ((x + B64 * V) * val b) = M * (x * val b) + M * B64 * (V * val b) := by rw [Nat.add_mul, Nat.mul_add, Nat.mul_assoc B64, ← Nat.mul_assoc M B64]
  rw [e2]
  omega
theorem zoo (a b : List Nat) (n : Nat) (ha : Wds a) (hb : Wds b) (hn : a.length + b.length ≤ n) :
  Wds (mOut a b a.length 0 (List.replicate n 0)) ∧ (mOut a b a.length 0 (List.replicate n 0)).length = n ∧ val (mOut a b a.length 0 (List.replicate n 0)) = val a * val b := by
 obtain ⟨h1, h2, h3⟩ := zlX a b ha hb a.length 0 (List.replicate n 0) (by omega) (by simpa using hn) (fun x hx => by rw [List.eq_of_mem_replicate hx]; decide) (fun p _ => by
  simp only [List.getD_eq_getElem?_getD, List.getElem?_replicate]; split <;> rfl)
 refine ⟨h1, by rw [h2, List.length_replicate], ?_⟩
 rw [h3, zhP]; simp
end Go.Wd
namespace Go.Proofs.YtibedaeefnjjlaaGreat
open Go.RowKit Go.Ab
theorem zkm {post : List (Option Blk)} {P : Program} {L : Ln} {fn : Func} {S : St} {r s : AV} {cs ds : List AV} {p q ty ty' i j n n' : Nat} {T T' : TypeId} {F F' : List Nat} [hT : AgT P ty n] [hT' : AgT P ty' n'] (G : List Nat) (hrt : Rt (getH S.H) L.n G (.ag cs) r F) (hrs : Rt (getH S.H) L.n G (.ag ds) s F') (hres : fn.results = #[.cell p ty, .cell q ty']) (hp : get S.env p = .pt i 0) (hi : getH S.H i = some (.var T cs)) (hl : cs.length = n) (hq : get S.env q = .pt j 0) (hj : getH S.H j = some (.var T' ds)) (hl' : ds.length = n')
  (hpo : ∀ i b, (i, some b) ∈ zbu 0 post → getH S.H i = some b ∧ b.ids = []) (hn : zdz L (F ++ (F' ++ [])) G = true) : (Exit.ret = .normal ∨ Exit.ret = .ret) ∧ zgB P L fn S (.tu [r, s]) post := by
 obtain ⟨d, h1, h2⟩ := hT.und
 obtain ⟨d', h3, h4⟩ := hT'.und
 refine ⟨.inr rfl, ⟨⟨.tu [.ag cs, .ag ds], _, G, .two _ _ _ _ hres (.agg _ _ _ _ _ _ hp hi h1 h2 ?_) (.agg _ _ _ _ _ _ hq hj h3 h4 ?_), .tu _ _ _ (.cons _ _ _ _ _ _ hrt (.cons _ _ _ _ _ _ hrs .nil)), hn⟩, hpo⟩⟩
 ·rw [hT.size, hl]
 ·rw [hT'.size, hl']
theorem zhC {post : List (Option Blk)} {P : Program} {L : Ln} {fn : Func} {S : St} {r s t z : AV} {cs ds : List AV} {p q u ty ty' i j n n' : Nat} {T T' : TypeId} {F F' F'' : List Nat} [hT : AgT P ty n] [hT' : AgT P ty' n'] (G : List Nat) (hrt : Rt (getH S.H) L.n G (.ag cs) r F) (hrs : Rt (getH S.H) L.n G (.ag ds) s F') (hrq : Rt (getH S.H) L.n G z t F'') (hres : fn.results = #[.cell p ty, .cell q ty', .tmp u]) (hp : get S.env p = .pt i 0) (hi : getH S.H i = some (.var T cs)) (hl : cs.length = n) (hq : get S.env q = .pt j 0) (hj : getH S.H j = some (.var T' ds)) (hl' : ds.length = n') (hz : get S.env u = z)
  (hpo : ∀ i b, (i, some b) ∈ zbu 0 post → getH S.H i = some b ∧ b.ids = []) (hn : zdz L (F ++ (F' ++ (F'' ++ []))) G = true) : (Exit.ret = .normal ∨ Exit.ret = .ret) ∧ zgB P L fn S (.tu [r, s, t]) post := by
 obtain ⟨d, h1, h2⟩ := hT.und
 obtain ⟨d', h3, h4⟩ := hT'.und
 refine ⟨.inr rfl, ⟨⟨.tu [.ag cs, .ag ds, z], _, G, .three _ _ _ _ _ _ hres (.agg _ _ _ _ _ _ hp hi h1 h2 ?_) (.agg _ _ _ _ _ _ hq hj h3 h4 ?_) (.tmp _ _ hz), .tu _ _ _ (.cons _ _ _ _ _ _ hrt (.cons _ _ _ _ _ _ hrs (.cons _ _ _ _ _ _ hrq .nil))), hn⟩, hpo⟩⟩
 ·rw [hT.size, hl]
 ·rw [hT'.size, hl']
end Go.Proofs.YtibedaeefnjjlaaGreat
namespace Go.Ab
open Go.RowKit
theorem zm7 {α : Type} (us vs : List α) (f : Nat) (ds : List α) : setA (us ++ vs) (us.length + f) ds = us ++ setA vs f ds := by
 unfold setA
 rw [List.take_append, List.drop_append, List.take_of_length_le (l := us) (by omega), List.drop_eq_nil_of_le (as := us) (by omega)]
 rw [show us.length + f - us.length = f by omega, show us.length + f + ds.length - us.length = f + ds.length by omega]
 simp
theorem zey {Z : Nat → Value} {M : Nat → Prop} {w : World} {i T sz : Nat} {es : List (List RV)} {cs : List AV} (h : held Z M w i (.rowo T sz es cs)) :
  ∃ g cap cur us vs, Z i = .slice (some ⟨g, 0, none⟩) (es.length + 1) cap ∧ w.heap[g]? = some (.cells cur T (0, 0)) ∧ es.length + 1 ≤ cap ∧ cap ≤ maxLen ∧ cur.size = cap * sz ∧ cur.toList.take ((es.length + 1) * sz) = us ++ vs ∧ us.length = es.length * sz ∧ vs.length = sz ∧ RVs M w es.flatten us ∧ AV.reps Z M w cs vs ∧ (∀ e ∈ es, e.length = sz) ∧ cs.length = sz ∧ vs.all (·.oneCell') = true := by
 obtain ⟨us, vs, h1, h2, h3, h4, h5, h6⟩ := h
 rcases h1.2 with ⟨e, h0⟩ | ⟨g, cap, cur, e, _, hg, k1, k2, k3, k4⟩
 ·cases h0
 ·refine ⟨g, cap, cur, us, vs, e, hg, k1, k2, k3, k4, ?_, ?_, h2, h3, h4, h5, h6⟩
  ·rw [← h2.len]; exact zcg sz es h4
  ·rw [← AV.reps_len h3]; exact h5
section
variable {P : Program} {env : Nat → AV} {H : Nat → Option Blk} {d : Option Tmp} {ty : TypeId} {pos : String} {af : Array Edge} {g : Option (Nat × Bool)}
variable {t : TypeId} {x y : Operand} {sz : Nat} {es : List (List RV)} {cs : List AV}
theorem zj1 {e b i T : Nat} [hT : SlT P t e sz b] {k : IntKind} {a : Int} (hx : evA env x = .ow i) (hH : H i = some (.rowo T sz es cs)) (hy : evA env y = .r (.v (.int k a))) (ha : a = (es.length : Int)) :
  zax P ⟨d, .indexAddr t x y, ty, pos, af, g⟩ env H [(i, .rowo T sz es cs)] (.pe i sz es.length 0) := by
 subst ha
 refine ⟨fun i b h => by obtain ⟨rfl, rfl⟩ := mem1 h; exact hH, fun i hi => (zcl hx i (by simpa [AV.ids] using hi)).imp id fun ⟨_, _, h, _⟩ => za8 h, fun ac w Z M hr hh => ?_⟩
 have h1 := hr x (by simp [Op.operands])
 have h2 := ev_v hy (hr y (by simp [Op.operands]))
 rw [hx, AV.rep] at h1
 obtain ⟨g, cap, cur, us, vs, e1, hg, k1, k2, _⟩ := zey (hh i _ List.mem_cons_self)
 obtain ⟨ti, z, t1, t2, t3, t4, t5⟩ := SlT.inf (P := P) (t := t) (e := e) (sz := sz) (b := b)
 have tu := SlT.und (P := P) (t := t) (e := e) (sz := sz) (b := b)
 have te : P.elem t = e := by simp [Program.elem, tu]
 have hs : (sizeOf (P.elem t)).run P w = .ok sz w := by rw [te]; simp [sizeOf, typeInfo, t1, t3]
 have := run_indexAt_slice (P := P) w t ⟨g, 0, none⟩ (es.length + 1) cap k (es.length : Int) (by rw [te]; exact tu)
 rw [if_pos ⟨by omega, by omega⟩, hs] at this
 refine ⟨.pointer (some ⟨g, es.length * sz, none⟩), ?_, by rw [AV.rep]; exact ⟨g, by rw [e1]; rfl, by rw [Nat.add_zero]⟩⟩
 simp only [execOp, h2, h1, e1, Sem.run_bind, this, Result.andThen_ok, Int.toNat_natCast]
 simp [zbT]
theorem zhD {w : World} {g T n : Nat} {cur : Array Value} {us vs : List Value} (hg : w.heap[g]? = some (.cells cur T (0, 0))) (h : cur.toList.take n = us ++ vs) {f : Nat} {u : Value} (hu : vs[f]? = some u) : w.cell? ⟨g, us.length + f, none⟩ = some u := by
 rw [cell_of_row w g _ cur T (0, 0) hg]
 have h7 : (us ++ vs)[us.length + f]? = some u := by rw [List.getElem?_append_right (by omega), Nat.add_sub_cancel_left]; exact hu
 rw [← h, List.getElem?_take] at h7
 split at h7
 ·simpa using h7
 ·cases h7
theorem zmR {i T k f : Nat} {c : AV} [OnT P t] (hx : evA env x = .pe i sz k f) (hH : H i = some (.rowo T sz es cs)) (hk : k = es.length) (hc : cs[f]? = some c) : zax P ⟨d, .load t x, ty, pos, af, g⟩ env H [(i, .rowo T sz es cs)] c := by
 subst hk
 refine ⟨fun i b h => by obtain ⟨rfl, rfl⟩ := mem1 h; exact hH, fun j hj => .inr ⟨i, _, List.mem_cons_self, .inr (za5 (List.mem_of_getElem? hc) hj)⟩, fun a w Z M hr hh => ?_⟩
 have h1 := hr x (by simp [Op.operands])
 rw [hx, AV.rep] at h1
 obtain ⟨g, cap, cur, us, vs, e1, hg, k1, k2, k3, k4, k5, k6, k7, k8, k9⟩ := zey (hh i _ List.mem_cons_self)
 obtain ⟨b, e2, e3⟩ := h1
 have hb : b = g := by rw [e1] at e2; simpa [blk] using e2.symm
 subst hb
 obtain ⟨u, h7, h8⟩ := AV.reps_get k8 hc
 obtain ⟨D, hu, hD⟩ := OnT.und (P := P) (t := t)
 refine ⟨u, ?_, h8⟩
 have hcell := zhD hg k4 h7
 rw [k5] at hcell
 simp only [execOp, e3, Instr.loadAt, Instr.sureAddr, Sem.run_bind, Sem.run_pure, Result.andThen_ok, zb5 w _ t D u hu hD hcell]
theorem zmS {i T k f m : Nat} [AgT P t m] (hx : evA env x = .pe i sz k f) (hH : H i = some (.rowo T sz es cs)) (hk : k = es.length) (hf : Nat.ble (f + m) cs.length = true) : zax P ⟨d, .load t x, ty, pos, af, g⟩ env H [(i, .rowo T sz es cs)] (.ag ((cs.drop f).take m)) := by
 subst hk
 have hf := zcf.1 hf
 refine ⟨fun i b h => by obtain ⟨rfl, rfl⟩ := mem1 h; exact hH, fun j hj => .inr ⟨i, _, List.mem_cons_self, .inr ?_⟩, fun a w Z M hr hh => ?_⟩
 ·rw [AV.ids, zbJ] at hj
  obtain ⟨c, hc, hcj⟩ := hj
  exact za5 (List.mem_of_mem_drop (List.mem_of_mem_take hc)) hcj
 have h1 := hr x (by simp [Op.operands])
 rw [hx, AV.rep] at h1
 obtain ⟨g, cap, cur, us, vs, e1, hg, k1, k2, k3, k4, k5, k6, k7, k8, k9, k10, k11⟩ := zey (hh i _ List.mem_cons_self)
 obtain ⟨b, e2, e3⟩ := h1
 have hb : b = g := by rw [e1] at e2; simpa [blk] using e2.symm
 subst hb
 obtain ⟨D, hu, hD⟩ := AgT.und (P := P) (t := t) (n := m)
 have hr2 := zdO m (zdM f k8)
 refine ⟨.agg ((vs.drop f).take m).toArray, ?_, by rw [AV.rep]; exact ⟨_, rfl, hr2⟩⟩
 have hl : (loadCells ⟨b, es.length * sz + f, none⟩ m).run P w = .ok ((vs.drop f).take m).toArray w := by
  have := run_loadCells_list (P := P) w ⟨b, es.length * sz + f, none⟩ ((vs.drop f).take m) (fun q v hv => by
   rw [zbT]
   rw [List.getElem?_take] at hv
   split at hv
   ·rw [List.getElem?_drop] at hv
    have := zhD hg k4 hv
    rwa [k5, ← Nat.add_assoc] at this
   ·cases hv)
  rwa [show ((vs.drop f).take m).length = m by rw [List.length_take, List.length_drop]; omega] at this
 simp only [execOp, e3, Instr.loadAt, Instr.sureAddr, loadVar, Sem.run_bind, Sem.run_pure, Result.andThen_ok, zjj hu hD, run_sizeOf AgT.size, if_true, hl]
end
def ztg : AV → Bool
 | .ag _ => false
 | _ => true
def zj3 (rd : List (Nat × Blk)) (cs : List AV) : Bool := cs.all fun c => zgx rd c && ztg c
def zhE (H : Nat → Option Blk) : List AV → List (Nat × Blk)
 | [] => []
 | .ow j :: cs => (match H j with | some b => [(j, b)] | none => []) ++ zhE H cs
 | _ :: cs => zhE H cs
theorem zjh {H : Nat → Option Blk} {i : Nat} {b : Blk} : ∀ {cs : List AV}, (i, b) ∈ zhE H cs → H i = some b
 | [], h => by cases h
 | c :: cs, h => by
  cases c with
  | ow j =>
   rw [zhE, List.mem_append] at h
   rcases h with h | h
   ·cases hj : H j with
    | none => rw [hj] at h; cases h
    | some b' => rw [hj] at h; obtain ⟨rfl, rfl⟩ := mem1 h; exact hj
   ·exact zjh h
  | _ => exact zjh (cs := cs) (by simpa [zhE] using h)
theorem zl7 {Z : Nat → Value} {B : Nat → Prop} {w : World} {rd : List (Nat × Blk)} {c : AV} {v : Value} (ho : (zgx rd c && ztg c) = true) (hh : ∀ i b, (i, b) ∈ rd → held Z B w i b) (hr : c.rep Z B w v) : v.oneCell' = true ∧ v.cells = #[v] := by
 rw [Bool.and_eq_true] at ho
 obtain ⟨h1, h2⟩ := ho
 have hv : valB c = true → v.oneCell' = true ∧ v.cells = #[v] := fun h => by
  have := (zdf hr h).2 (by rintro cs rfl; cases h2)
  exact ⟨this.2, this.1⟩
 cases c with
 | ow i =>
  simp only [zgx, List.any_eq_true, Bool.and_eq_true] at h1
  obtain ⟨⟨j, b⟩, h3, h4, _⟩ := h1
  have := Nat.eq_of_beq_eq_true h4
  simp only at this
  subst this
  rw [AV.rep] at hr
  subst hr
  exact zrV (hh _ _ h3)
 | _ => exact hv h1
theorem zj4 {Z : Nat → Value} {B : Nat → Prop} {w : World} {rd : List (Nat × Blk)} (hh : ∀ i b, (i, b) ∈ rd → held Z B w i b) : ∀ {cs : List AV} {us : List Value}, zj3 rd cs = true → AV.reps Z B w cs us → us.all (·.oneCell') = true
 | [], us, _, h => by rw [AV.reps] at h; subst h; rfl
 | c :: cs, us, ho, h => by
  rw [AV.reps] at h
  obtain ⟨u, us', rfl, h1, h2⟩ := h
  rw [zj3, List.all_cons, Bool.and_eq_true] at ho
  rw [List.all_cons, (zl7 ho.1 hh h1).1, zj4 hh ho.2 h2]
  rfl
structure zgU (env : Nat → AV) (H : Nat → Option Blk) (y : Operand) (ds : List AV) (rd : List (Nat × Blk)) : Prop where
 ex : ∃ a, evA env y = a ∧ ds = zaM a
 rdE : zhE H ds = rd
 ok : zj3 rd ds = true
section
variable {env : Nat → AV} {H : Nat → Option Blk} {y : Operand} {ds : List AV} {rd : List (Nat × Blk)}
theorem zgU.of {a : AV} (hx : evA env y = a) (hr : zhE H (zaM a) = rd) (ho : zj3 rd (zaM a) = true) : zgU env H y (zaM a) rd := ⟨⟨a, hx, rfl⟩, hr, ho⟩
theorem zgU.rdH (h : zgU env H y ds rd) : ∀ i b, (i, b) ∈ rd → H i = some b := fun i b hi => zjh (by rw [h.rdE]; exact hi)
theorem zgU.ids (h : zgU env H y ds rd) : ∀ i ∈ AV.idss ds, (∃ t, i ∈ (env t).ids) := by
 intro i hi
 obtain ⟨a, h1, rfl⟩ := h.ex
 rcases zcl h1 i (zeZ i hi) with h | ⟨_, _, h, _⟩
 ·exact h
 ·exact za8 h
theorem zgU.rep (h : zgU env H y ds rd) {Z : Nat → Value} {M : Nat → Prop} {w : World} {v : Value} (hr : (evA env y).rep Z M w v) (hh : ∀ i b, (i, b) ∈ rd → held Z M w i b) : AV.reps Z M w ds v.cells.toList ∧ v.cells.toList.all (·.oneCell') = true := by
 obtain ⟨a, h1, rfl⟩ := h.ex
 have h2 := h.ok
 rw [h1] at hr
 have h3 : AV.reps Z M w (zaM a) v.cells.toList := by
  cases a with
  | ag cs => exact (zdf hr rfl).1
  | _ =>
   simp only [zaM, zj3, List.all_cons, List.all_nil, Bool.and_true] at h2 ⊢
   have := zl7 (by first | exact h2 | simpa using h2) hh hr
   rw [this.2]
   show AV.reps Z M w [_] [v]
   rw [AV.reps]
   exact ⟨_, _, rfl, hr, by rw [AV.reps]⟩
 exact ⟨h3, zj4 hh h2 h3⟩
end
section
variable {P : Program} {L : Ln} {N : Nat} {ops : Array Oper} {chk : List (Nat × Sp) → Bool} {Q : St → Prop} {l : List Oper} {E : List (Nat × AV)} {H : List (Nat × Option Blk)} {n : Nat} {tr : List (Nat × Sp)}
variable {d : Nat} {ty : TypeId} {pos : String} {af : Array Edge} {g : Option (Nat × Bool)} {t : TypeId} {x y : Operand}
theorem ziA {i T sz k f m : Nat} {es : List (List RV)} {cs ds : List AV} {rd : List (Nat × Blk)} (hx : evA (get E) x = .pe i sz k f) (hH : getH H i = some (.rowo T sz es cs)) (hk : k = es.length) (hy : zgU (get E) (getH H) y ds rd) (hne : (rd.all fun p => !Nat.beq p.1 i) = true) (hs : (P.info? t).map (·.size) = some m) (hm : ds.length = m) (hf : Nat.ble (f + m) cs.length = true)
  (hg : zbo ops (get E) ⟨none, .store t x y, ty, pos, af, g⟩ true)
  (h : wpA P L N ops chk Q l ⟨E, (i, some (.rowo T sz es (setA cs f ds))) :: H, n⟩ ((n, ⟨true, (i, .rowo T sz es cs) :: rd, .r (.v undef), [(i, some (.rowo T sz es (setA cs f ds)))], []⟩) :: tr)) :
  wpA P L N ops chk Q (⟨none, .store t x y, ty, pos, af, g⟩ :: l) ⟨E, H, n⟩ tr := by
 subst hk
 have hf := zcf.1 hf
 refine ⟨⟨true, (i, .rowo T sz es cs) :: rd, .r (.v undef), [(i, some (.rowo T sz es (setA cs f ds)))], []⟩, ⟨(fun x hx => by cases hx), hg, fun _ ac w Z M hM hr hh hdist => ?_, (fun h => by cases h), fun D hD hDH hfr => ?_⟩, h⟩
 ·have hxr : (evA (get E) x).rep Z M w (ac.eval x) := hr x (by simp [Op.operands])
  have hyr : (evA (get E) y).rep Z M w (ac.eval y) := hr y (by simp [Op.operands])
  rw [hx, AV.rep] at hxr
  obtain ⟨hheld, hMj⟩ := hh i (.rowo T sz es cs) (by simp)
  obtain ⟨hrv, hall⟩ := hy.rep hyr (fun j b hj => (hh j b (List.mem_cons_of_mem _ hj)).1)
  obtain ⟨q, cap, cur, us, vs, e1, hq, k1, k2, k3, k4, k5, k6, k7, k8, k9, k10, k11⟩ := zey hheld
  obtain ⟨b, e2, e3⟩ := hxr
  have hb : b = q := by rw [e1] at e2; simpa [blk] using e2.symm
  subst hb
  have hcl : (ac.eval y).cells.toList.length = ds.length := (AV.reps_len hrv).symm
  have hcapsz : (es.length + 1) * sz ≤ cap * sz := Nat.mul_le_mul_right _ k1
  have hfit : es.length * sz + f + ds.length ≤ (es.length + 1) * sz := by rw [Nat.add_mul]; omega
  have hcs : cur.toList.length = cap * sz := by rw [Array.length_toList]; exact k3
  obtain ⟨w', us', h7, h8, h9, h10⟩ := zda (P := P) (b := b) (o := es.length * sz + f) (T := T) (ac.eval y).cells.toList 0 cur w hq (by rw [hcl]; omega) hall
  rw [Nat.add_zero] at h9
  have hsz : (sizeOf t).run P w = .ok (ac.eval y).cells.size w := by
   rw [run_sizeOf hs]; congr 1
   have : (ac.eval y).cells.size = (ac.eval y).cells.toList.length := by simp
   omega
  have hex : (execOp ac.eval ⟨none, .store t x y, ty, pos, af, g⟩).run P w = .ok .skip w' := by
   have : (storeVar t ⟨b, es.length * sz + f, none⟩ (ac.eval y)).run P w = .ok () w' := by
    simp only [storeVar, Sem.run_bind, hsz, Result.andThen_ok]
    simp [h7]
   simp only [execOp, e3, Instr.storeAt, Instr.sureAddr, Sem.run_bind, Sem.run_pure, Result.andThen_ok, this]
  have hU : Upto M w w' := h10.mono fun q _ hq => by subst hq; exact hMj _ e2
  have hNew : ∀ q, New n ⟨true, (i, .rowo T sz es cs) :: rd, .r (.v undef), [(i, some (.rowo T sz es (setA cs f ds)))], []⟩ Z M q → M q := fun q hq => zgh rfl hq
  refine zet hex ⟨Z, fun _ _ => rfl, by rw [AV.rep, RV.rep], fun i' c hi => ?_, fun j b h => by simp at h, fun j j' x h => by simp at h, fun j x h => by simp at h, ?_⟩
  ·simp only [List.mem_cons, List.not_mem_nil, or_false, Prod.mk.injEq, Option.some.injEq] at hi
   obtain ⟨rfl, rfl⟩ := hi
   have m1 := AV.reps_mono hU (fun q _ hq => hNew q hq) cs (fun _ _ => rfl) _ k8
   have m2 := AV.reps_mono hU (fun q _ hq => hNew q hq) ds (fun _ _ => rfl) _ hrv
   refine ⟨us, setA vs f (ac.eval y).cells.toList, ⟨?_, .inr ⟨b, cap, us', e1, Nat.zero_le _, h8, k1, k2, ?_, ?_⟩⟩, k7.mono hU (fun q _ hq => hNew q hq), ?_, k9, ?_, ?_⟩
   ·rw [List.length_append, zel _ _ _ (by omega), k5, k6, Nat.add_mul]; omega
   ·have : us'.size = us'.toList.length := by simp
    rw [this, h9, zel _ _ _ (by rw [hcl, hcs]; omega), hcs]
   ·rw [h9, zkp _ _ _ _ (by rw [hcl]; exact hfit) (by rw [hcs]; exact hcapsz), k4, ← k5, zm7]
   ·unfold setA
    rw [hcl]
    exact zbs (zbs (zdO f m1) m2) (zdM _ m1)
   ·rw [zel _ _ _ (by omega)]; exact k10
   ·unfold setA
    rw [List.all_append, List.all_append, hall]
    simp only [List.all_eq_true] at k11 ⊢
    simp only [Bool.and_true, Bool.and_eq_true, List.all_eq_true]
    exact ⟨fun u hu => k11 u (List.mem_of_mem_take hu), fun u hu => k11 u (List.mem_of_mem_drop hu)⟩
  ·refine h10.mono fun q _ hq => ?_
   subst hq
   exact ⟨i, some (.rowo T sz es (setA cs f ds)), by simp, e2⟩
 ·refine ⟨fun i' b hb => ?_, fun i' o' ho => ?_, fun i' o' ho => ?_, fun i' ho => ?_, hfr, fun i' hi => by simp [AV.ids] at hi, fun b h => by simp at h, fun i' b hb i'' hi' => .inl ?_⟩
  ·rcases List.mem_cons.1 hb with e1 | e1
   ·injection e1 with e1 e2; subst e1 e2; exact hH
   ·exact hy.rdH i' b e1
  ·simp only [List.mem_cons, List.not_mem_nil, or_false, Prod.mk.injEq] at ho
   obtain ⟨rfl, rfl⟩ := ho
   exact ⟨.rowo T sz es cs, by simp⟩
  ·simp only [List.mem_cons, List.not_mem_nil, or_false, Prod.mk.injEq] at ho
   obtain ⟨rfl, rfl⟩ := ho
   exact by simp [List.lookup_cons]
  ·simp at ho
  ·simp only [List.mem_cons, List.not_mem_nil, or_false, Prod.mk.injEq, Option.some.injEq] at hb
   obtain ⟨rfl, rfl⟩ := hb
   rw [Blk.ids, setA, zbJ] at hi'
   obtain ⟨c, hc, hci⟩ := hi'
   rw [List.mem_append, List.mem_append] at hc
   rcases hc with (hc | hc) | hc
   ·exact (hDH _ _ hH).2 i'' (za5 (List.mem_of_mem_take hc) hci)
   ·obtain ⟨t', ht'⟩ := hy.ids i'' (za5 hc hci)
    exact hD t' i'' ht'
   ·exact (hDH _ _ hH).2 i'' (za5 (List.mem_of_mem_drop hc) hci)
theorem zhR {j o T m : Nat} {cs ds : List AV} {rd : List (Nat × Blk)} (hx : evA (get E) x = .pt j o) (hH : getH H j = some (.var T cs)) (hy : zgU (get E) (getH H) y ds rd) (hs : (P.info? t).map (·.size) = some m) (hm : ds.length = m) (hn : Nat.ble (o + m) cs.length = true)
  (hg : zbo ops (get E) ⟨none, .store t x y, ty, pos, af, g⟩ true)
  (h : wpA P L N ops chk Q l ⟨E, (j, some (.var T (setA cs o ds))) :: H, n⟩ ((n, ⟨true, (j, .var T cs) :: rd, .r (.v undef), [(j, some (.var T (setA cs o ds)))], []⟩) :: tr)) :
  wpA P L N ops chk Q (⟨none, .store t x y, ty, pos, af, g⟩ :: l) ⟨E, H, n⟩ tr := by
 have hn := zcf.1 hn
 refine ⟨⟨true, (j, .var T cs) :: rd, .r (.v undef), [(j, some (.var T (setA cs o ds)))], []⟩, ⟨(fun x hx => by cases hx), hg, fun _ ac w Z M hM hr hh hdist => ?_, (fun h => by cases h), fun D hD hDH hf => ?_⟩, h⟩
 ·have hxr : (evA (get E) x).rep Z M w (ac.eval x) := hr x (by simp [Op.operands])
  have hyr : (evA (get E) y).rep Z M w (ac.eval y) := hr y (by simp [Op.operands])
  rw [hx, AV.rep] at hxr
  obtain ⟨hheld, hMj⟩ := hh j (.var T cs) (by simp)
  obtain ⟨hcr, hall⟩ := hy.rep hyr (fun j b hj => (hh j b (List.mem_cons_of_mem _ hj)).1)
  obtain ⟨b, us, h2, h3, h4, h5, h6⟩ := zgI hheld hxr
  have hlen := AV.reps_len h5
  have hlen2 := AV.reps_len hcr
  simp only [Array.length_toList] at hlen hlen2
  obtain ⟨w', us', h7, h8, h9, h10⟩ := zda (P := P) (b := b) (o := o) (T := T) (ac.eval y).cells.toList 0 us w h4 (by simp; omega) hall
  have hsz : (sizeOf t).run P w = .ok (ac.eval y).cells.size w := by rw [run_sizeOf hs, ← hlen2, hm]
  have hex : (execOp ac.eval ⟨none, .store t x y, ty, pos, af, g⟩).run P w = .ok .skip w' := by
   have : (storeVar t ⟨b, o, none⟩ (ac.eval y)).run P w = .ok () w' := by
    simp only [storeVar, Sem.run_bind, hsz, Result.andThen_ok]
    simp [h7]
   simp only [execOp, h3, Instr.storeAt, Instr.sureAddr, Sem.run_bind, Sem.run_pure, Result.andThen_ok, this]
  have hU : Upto M w w' := h10.mono fun q _ hq => by subst hq; exact hMj _ (by rw [h2]; rfl)
  have hNew : ∀ p, New n ⟨true, (j, .var T cs) :: rd, .r (.v undef), [(j, some (.var T (setA cs o ds)))], []⟩ Z M p → M p := fun q hq => zgh rfl hq
  refine zet hex ⟨Z, fun _ _ => rfl, by rw [AV.rep, RV.rep], fun i c hi => ?_, fun j b h => by simp at h, fun j j' x h => by simp at h, fun j x h => by simp at h, ?_⟩
  ·simp only [List.mem_cons, List.not_mem_nil, or_false, Prod.mk.injEq, Option.some.injEq] at hi
   obtain ⟨rfl, rfl⟩ := hi
   refine ⟨b, us', h2, h8, ?_, ?_⟩
   ·rw [h9, Nat.add_zero]
    have m1 := AV.reps_mono hU (fun q _ hq => hNew q hq) cs (fun _ _ => rfl) _ h5
    have m2 := AV.reps_mono hU (fun q _ hq => hNew q hq) ds (fun _ _ => rfl) _ hcr
    unfold setA
    rw [show (ac.eval y).cells.toList.length = ds.length by simp; omega]
    exact zbs (zbs (zdN o m1) m2) (zdL _ m1)
   ·rw [zep, h9]
    unfold setA
    rw [zep] at h6
    rw [List.all_append, List.all_append, hall]
    simp only [List.all_eq_true] at h6 ⊢
    simp only [Bool.and_true, Bool.and_eq_true, List.all_eq_true]
    exact ⟨fun u hu => h6 u (List.mem_of_mem_take hu), fun u hu => h6 u (List.mem_of_mem_drop hu)⟩
  ·refine h10.mono fun q _ hq => ?_
   subst hq
   exact ⟨j, some (.var T (setA cs o ds)), by simp, by rw [h2]; rfl⟩
 ·refine ⟨fun i b hb => ?_, fun i o' ho => ?_, fun i o' ho => ?_, fun i ho => ?_, hf, fun i hi => by simp [AV.ids] at hi, fun b h => by simp at h, fun i b hb i' hi' => .inl ?_⟩
  ·rcases List.mem_cons.1 hb with e1 | e1
   ·injection e1 with e1 e2; subst e1 e2; exact hH
   ·exact hy.rdH i b e1
  ·simp only [List.mem_cons, List.not_mem_nil, or_false, Prod.mk.injEq] at ho
   obtain ⟨rfl, rfl⟩ := ho
   exact ⟨.var T cs, by simp⟩
  ·simp only [List.mem_cons, List.not_mem_nil, or_false, Prod.mk.injEq] at ho
   obtain ⟨rfl, rfl⟩ := ho
   exact by simp [List.lookup_cons]
  ·simp at ho
  ·simp only [List.mem_cons, List.not_mem_nil, or_false, Prod.mk.injEq, Option.some.injEq] at hb
   obtain ⟨rfl, rfl⟩ := hb
   rw [Blk.ids, setA, zbJ] at hi'
   obtain ⟨c, hc, hci⟩ := hi'
   rw [List.mem_append, List.mem_append] at hc
   rcases hc with (hc | hc) | hc
   ·exact (hDH _ _ hH).2 i' (za5 (List.mem_of_mem_take hc) hci)
   ·obtain ⟨t', ht'⟩ := hy.ids i' (za5 hc hci)
    exact hD t' i' ht'
   ·exact (hDH _ _ hH).2 i' (za5 (List.mem_of_mem_drop hc) hci)
theorem zge {e sz b : Nat} [hT : SlT P t e sz b] {o : Option Tmp} {HF : Nat → Option Blk} {k : Nat} {cs : List AV} {rd : List (Nat × Blk)} (hy : zgU (get E) HF x cs rd) (hl : cs.length = sz) (hsm : Nat.ble sz 16777216 = true) :
  zgS P ⟨o, .buildSlice t 1 #[(0, x)], ty, pos, af, g⟩ (get E) HF rd k (.ow k) (.rowo e sz [] cs) := by
 refine ⟨hy.rdH, rfl, fun i hi => .inl (hy.ids i hi), fun a w Z M hM hr hh => ?_⟩
 have hsm := zcf.1 hsm
 obtain ⟨hc, hall⟩ := hy.rep (hr x (by simp [Op.operands])) hh
 have hcl := AV.reps_len hc
 obtain ⟨i, z, t1, t2, t3, t4, t5⟩ := SlT.inf (P := P) (t := t) (e := e) (sz := sz) (b := b)
 have tu := SlT.und (P := P) (t := t) (e := e) (sz := sz) (b := b)
 have tp := SlT.pos (P := P) (t := t) (e := e) (sz := sz) (b := b)
 have hrun : (Instr.buildSlice t 1 (#[(0, x)].map fun p => (p.1, a.eval p.2))).run P w = .ok (.slice (some ⟨w.heap.size, 0, none⟩) 1 1) (w.alloc (.cells (([a.eval x]).flatMap fun v => v.cells.toList).toArray e)) := by
  refine run_buildSlice w t e 1 _ _ i z tu t1 t2 (by rw [t3]; omega) (by rw [t3]; omega) ?_
  rw [show (#[(0, x)].map fun p : Nat × Operand => (p.1, a.eval p.2)).toList = ([a.eval x].zipIdx 0).map fun x => (x.2, x.1) from by simp, t3]
  refine Great.fill_whole tp _ _ (fun v hv => ?_) (by simp)
  rw [List.mem_singleton] at hv
  subst hv
  rw [← hl, hcl, Array.length_toList]
 have hf : ([a.eval x].flatMap fun v => v.cells.toList) = (a.eval x).cells.toList := by simp
 rw [hf] at hrun
 have hexec : (execOp a.eval ⟨o, .buildSlice t 1 #[(0, x)], ty, pos, af, g⟩).run P w = .ok (.value (.slice (some ⟨w.heap.size, 0, none⟩) 1 1)) (w.alloc (.cells (a.eval x).cells.toList.toArray e)) := by
  have : (#[(0, x)].map fun (i, x) => (i, a.eval x)) = #[(0, x)].map fun p => (p.1, a.eval p.2) := rfl
  simp only [execOp, this, Sem.run_bind, hrun, Result.andThen_ok, Sem.run_pure]
 refine ⟨_, .slice (some ⟨w.heap.size, 0, none⟩) 1 1, _, hexec, (Below.refl _ _).alloc (Nat.le_refl _) _, fun q hq => by simp [blk] at hq; omega, fun Z' hz' hzo => ⟨by rw [AV.rep, hz'], fun hne => ?_⟩⟩
 refine ⟨[], (a.eval x).cells.toList, ⟨by rw [List.nil_append, ← hcl, hl]; simp, .inr ⟨w.heap.size, 1, _, by rw [hz']; rfl, Nat.zero_le _, zeY _ _, Nat.le_refl _, by unfold maxLen; omega, ?_, ?_⟩⟩, .nil, ?_, by simp, hl, hall⟩
 ·rw [Nat.one_mul, ← hl, hcl]; simp
 ·rw [List.nil_append, List.take_of_length_le (by simp only [List.length_nil, Nat.zero_add, Nat.one_mul]; omega)]
 ·refine AV.reps_mono (Upto.alloc (M := M) w _) (fun q hq hb => ?_) cs (fun j hj => hzo j (hne j hj)) _ hc
  rcases hb with hb | hb
  ·exact hb
  ·simp [blk] at hb; omega
theorem zgs {e sz b i j : Nat} [hT : SlT P t e sz b] {es : List (List RV)} {cs : List AV} (hx : evA (get E) x = .ow i) (hi : getH H i = some (.row e sz es)) (hy : evA (get E) y = .ow j) (hj : getH H j = some (.rowo e sz [] cs)) (hne : Nat.beq j i = false)
  (hlen : (es.length + 1) * b ≤ 211106232532992 ∧ es.length + 1 ≤ 211106232532992) (hloc : (Nat.blt i L.m || Nat.ble L.n i) = true) (hci : (AV.idss cs).all (fun q => !Nat.beq q n) = true)
  (hd : Nat.blt d N = true) (hg : zbo ops (get E) ⟨some d, .call { callee := .builtin .append, args := #[x, y], argTypes := #[t, t] }, ty, pos, af, g⟩ true)
  (h : wpA P L N ops chk Q l ⟨(d, .ow n) :: E, (n, some (.rowo e sz es cs)) :: (i, none) :: H, n + 1⟩ ((n, ⟨true, [(i, .row e sz es), (j, .rowo e sz [] cs)], .ow n, [(i, none)], [.rowo e sz es cs]⟩) :: tr)) :
  wpA P L N ops chk Q (⟨some d, .call { callee := .builtin .append, args := #[x, y], argTypes := #[t, t] }, ty, pos, af, g⟩ :: l) ⟨E, H, n⟩ tr := by
 refine ⟨⟨true, [(i, .row e sz es), (j, .rowo e sz [] cs)], .ow n, [(i, none)], [.rowo e sz es cs]⟩, ⟨fun x hx => ?_, hg, fun _ a w Z M hM hr hh hdist => ?_, (fun h => by cases h), fun D hD hDH hf => ?_⟩, h⟩
 ·injection hx with hx; subst hx; exact zbE.1 hd
 ·have hxr : (evA (get E) x).rep Z M w (a.eval x) := hr x (by simp [Op.operands, Call.operands])
  have hyr : (evA (get E) y).rep Z M w (a.eval y) := hr y (by simp [Op.operands, Call.operands])
  rw [hx, AV.rep] at hxr
  rw [hy, AV.rep] at hyr
  obtain ⟨⟨us, h1, h2, h3⟩, hMi⟩ := hh i (.row e sz es) (by simp)
  obtain ⟨q, cap, cur, us0, vs, e1, hq, k1, k2, k3, k4, k5, k6, k7, k8, k9, k10, k11⟩ := zey (hh j (.rowo e sz [] cs) (by simp)).1
  obtain rfl : us0 = [] := by simpa using k5
  have hcell : ∀ p u, vs[p]? = some u → w.cell? ((⟨q, 0, none⟩ : Addr).add p) = some u := fun p u hu => by
   have := zhD hq k4 hu
   rw [List.length_nil, Nat.zero_add] at this
   rw [zbT, Nat.zero_add]; exact this
  have hones : ∀ u ∈ vs, u.oneCell' = true := List.all_eq_true.1 k11
  obtain ⟨v', w', h9, h10, h11, h12⟩ := zfi (P := P) (t := t) w ty (Z i) es.length 1 cap us vs h1 (some ⟨q, 0, none⟩) (by rw [k6, Nat.one_mul]) (fun _ => ⟨_, rfl, hcell⟩) hones hlen.1 (by unfold maxLen; omega)
  have hex : (execOp a.eval ⟨some d, .call { callee := .builtin .append, args := #[x, y], argTypes := #[t, t] }, ty, pos, af, g⟩).run P w = .ok (.value v') w' := by
   have h4 : a.eval y = .slice (some ⟨q, 0, none⟩) 1 cap := by rw [hyr, e1]; rfl
   simp only [execOp, resolve, invoke, builtin, Sem.run_bind, Sem.run_pure, Result.andThen_ok, List.map_toArray, List.map_cons, List.map_nil, hxr, h4, h9]
  obtain ⟨b1, A1, c1, b2⟩ := zhl h1
  obtain ⟨b3, A2, c2, b4⟩ := zhl h10
  have hU : Upto (fun q => blk (Z i) = some q) w w' := ⟨h11.os, h11.tape, h11.output, h11.size, fun q hq hne => h11.block q hq (fun e => hne (by rw [← b1]; exact e.symm))⟩
  have hU' : Upto M w w' := hU.mono fun q _ hq => hMi q hq
  refine zdG hex ⟨fun j => if j = n then v' else Z j, fun j hj => ?_, by rw [AV.rep]; simp, fun j c hj => ?_, fun j c hj => ?_, fun j j' q hj hj' hne => ?_, fun j q hj hq => ?_, hU.mono fun q _ hq => ⟨i, none, by simp, hq⟩⟩
  ·have : j ≠ n := by simp at hj; omega
   simp [this]
  ·have := zci hj; cases this
  ·have hj0 : j = 0 := by
    cases j with
    | zero => rfl
    | succ j => simp at hj
   subst hj0
   have : c = .rowo e sz es cs := by simpa using hj.symm
   subst this
   have hB : ∀ p, p < w.heap.size → New n ⟨true, [(i, .row e sz es), (j, .rowo e sz [] cs)], .ow n, [(i, none)], [.rowo e sz es cs]⟩ (fun j => if j = n then v' else Z j) M p → M p := by
    rintro p hp (h0 | ⟨j, hj, hjq⟩)
    ·exact h0
    ·have : j = 0 := by simpa using hj
     subst this
     simp only [Nat.add_zero, if_pos] at hjq
     rw [b3, b1] at h12
     rcases h12 with h12 | h12
     ·exact hMi p (by rw [← h12]; exact hjq)
     ·rw [h12] at hjq; injection hjq with hjq; omega
   refine ⟨us, vs, ?_, h2.mono hU' hB, ?_, h3, k10, k11⟩
   ·simp only [Nat.add_zero, if_pos]
    exact h10
   ·refine AV.reps_mono hU' hB cs (fun p hp => ?_) _ k8
    have : p ≠ n := fun e => by have := List.all_eq_true.1 hci p hp; subst e; simp at this
    simp [this]
  ·simp at hj hj'; omega
  ·have : j = 0 := by simpa using hj
   subst this
   have hq' : blk v' = some q := by simpa using hq
   rw [b3, b1] at h12
   rcases h12 with h12 | h12
   ·exact .inr ⟨i, by simp, by rw [← h12]; exact hq'⟩
   ·rw [h12] at hq'; injection hq' with hq'; exact .inl (by omega)
 ·refine ⟨fun p b hp => ?_, fun p o ho => ?_, fun p o ho => ?_, fun p ho => ?_, hf, fun p hp => .inr ?_, fun b hb p hp => .inl ?_, fun p b hb => ?_⟩
  ·simp only [List.mem_cons, List.not_mem_nil, or_false, Prod.mk.injEq] at hp
   rcases hp with ⟨rfl, rfl⟩ | ⟨rfl, rfl⟩
   ·exact hi
   ·exact hj
  ·have := zci ho
   injection this with e1 e2
   subst e1
   exact ⟨.row e sz es, by simp⟩
  ·have := zci ho
   injection this with e1 e2
   subst e1 e2
   simp [List.lookup_cons]
  ·have := zci ho
   injection this with e1 e2
   subst e1
   rw [Bool.or_eq_true, zbE, zcf] at hloc
   exact hloc
  ·have : p = n := by simpa [AV.ids] using hp
   subst this
   simp
  ·have := zci hb
   subst this
   exact (hDH _ _ hj).2 p (by simpa [Blk.ids] using hp)
  ·have := zci hb; cases this
end
/-! ## Other numbers -/
mutual
def AV.ren (f : Nat → Nat) : AV → AV
 | .ow i => .ow (f i)
 | .pt i o => .pt (f i) o
 | .pe i sz k q => .pe (f i) sz k q
 | .ol i n => .ol (f i) n
 | .sv i n => .sv (f i) n
 | .so i o n c => .so (f i) o n c
 | .cl g cs => .cl g (AV.rens f cs)
 | .ag cs => .ag (AV.rens f cs)
 | .tu cs => .tu (AV.rens f cs)
 | .r c => .r c
 | .rp cs => .rp cs
 | .fr T sz es => .fr T sz es
 | .na => .na
def AV.rens (f : Nat → Nat) : List AV → List AV
 | [] => []
 | c :: cs => AV.ren f c :: AV.rens f cs
end
section
variable {Z Z' : Nat → Value} {B B' : Nat → Prop} {w : World} {f : Nat → Nat}
mutual
theorem AV.rep_ren (hB : ∀ k, k < w.heap.size → B' k → B k) : ∀ (c : AV) (_ : ∀ i ∈ c.ids, Z' (f i) = Z i) (u : Value), AV.rep Z B w c u → AV.rep Z' B' w (c.ren f) u
 | .r c, _, u, h => by rw [AV.rep] at h; rw [AV.ren, AV.rep]; exact RV.rep_mono (Upto.refl _) hB c u h
 | .rp cs, _, u, h => AV.rep_mono (Upto.refl _) hB (.rp cs) (fun i hi => by simp [AV.ids] at hi) _ h
 | .ow i, hz, u, h => by rw [AV.rep] at h; rw [AV.ren, AV.rep, hz i (by simp [AV.ids])]; exact h
 | .pt i o, hz, u, h => by rw [AV.rep] at h; rw [AV.ren, AV.rep, hz i (by simp [AV.ids])]; exact h
 | .pe i sz k q, hz, u, h => by rw [AV.rep] at h; rw [AV.ren, AV.rep, hz i (by simp [AV.ids])]; exact h
 | .ol i n, hz, u, h => by rw [AV.rep] at h; rw [AV.ren, AV.rep, hz i (by simp [AV.ids])]; exact h
 | .sv i n, hz, u, h => by rw [AV.rep] at h; rw [AV.ren, AV.rep, hz i (by simp [AV.ids])]; exact h
 | .so i o n c, hz, u, h => by rw [AV.rep] at h; rw [AV.ren, AV.rep, hz i (by simp [AV.ids])]; exact h
 | .fr _ _ _, _, u, h => by rw [AV.rep] at h; exact h.elim
 | .na, _, u, h => by rw [AV.ren, AV.rep]; trivial
 | .ag cs, hz, u, h => by
  rw [AV.rep] at h; rw [AV.ren, AV.rep]
  obtain ⟨us, e, h⟩ := h
  exact ⟨us, e, AV.reps_ren hB cs (by simpa [AV.ids] using hz) _ h⟩
 | .cl g cs, hz, u, h => by
  rw [AV.rep] at h; rw [AV.ren, AV.rep]
  obtain ⟨us, e, h⟩ := h
  exact ⟨us, e, AV.reps_ren hB cs (by simpa [AV.ids] using hz) _ h⟩
 | .tu cs, hz, u, h => by
  rw [AV.rep] at h; rw [AV.ren, AV.rep]
  obtain ⟨us, e, h⟩ := h
  exact ⟨us, e, AV.reps_ren hB cs (by simpa [AV.ids] using hz) _ h⟩
theorem AV.reps_ren (hB : ∀ k, k < w.heap.size → B' k → B k) : ∀ (cs : List AV) (_ : ∀ i ∈ AV.idss cs, Z' (f i) = Z i) (us : List Value), AV.reps Z B w cs us → AV.reps Z' B' w (AV.rens f cs) us
 | [], _, us, h => by rw [AV.reps] at h; rw [AV.rens, AV.reps]; exact h
 | c :: cs, hz, us, h => by
  rw [AV.reps] at h; rw [AV.rens, AV.reps]
  obtain ⟨u, us', e, h1, h2⟩ := h
  exact ⟨u, us', e, AV.rep_ren hB c (fun i hi => hz i (by simp [AV.idss, hi])) u h1, AV.reps_ren hB cs (fun i hi => hz i (by simp [AV.idss, hi])) us' h2⟩
end
end
mutual
theorem AV.ren_ids (f : Nat → Nat) : ∀ (c : AV), (c.ren f).ids = c.ids.map f
 | .r c => rfl
 | .rp cs => rfl
 | .ow i => rfl
 | .pt i o => rfl
 | .pe i sz k q => rfl
 | .ol i n => rfl
 | .sv i n => rfl
 | .so i o n c => rfl
 | .fr _ _ _ => rfl
 | .na => rfl
 | .ag cs => by rw [AV.ren, AV.ids, AV.ids]; exact AV.rens_ids f cs
 | .cl g cs => by rw [AV.ren, AV.ids, AV.ids]; exact AV.rens_ids f cs
 | .tu cs => by rw [AV.ren, AV.ids, AV.ids]; exact AV.rens_ids f cs
theorem AV.rens_ids (f : Nat → Nat) : ∀ (cs : List AV), AV.idss (AV.rens f cs) = (AV.idss cs).map f
 | [] => rfl
 | c :: cs => by rw [AV.rens, AV.idss, AV.idss, List.map_append, AV.ren_ids f c, AV.rens_ids f cs]
end
theorem zmi (f : Nat → Nat) : ∀ cs : List AV, (AV.rens f cs).length = cs.length
 | [] => rfl
 | c :: cs => by rw [AV.rens, List.length_cons, List.length_cons, zmi f cs]
def Blk.ren (f : Nat → Nat) : Blk → Blk
 | .var T cs => .var T (AV.rens f cs)
 | .rowo T sz es cs => .rowo T sz es (AV.rens f cs)
 | b => b
theorem Blk.ren_ids (f : Nat → Nat) (b : Blk) : (b.ren f).ids = b.ids.map f := by
 cases b with
 | var T cs => exact AV.rens_ids f cs
 | rowo T sz es cs => exact AV.rens_ids f cs
 | _ => rfl
theorem zpO {Z Z' : Nat → Value} {B B' : Nat → Prop} {w : World} {f : Nat → Nat} {i i' : Nat} {b : Blk} (h : held Z B w i b) (hz : Z' i' = Z i) (hid : ∀ j ∈ b.ids, Z' (f j) = Z j) (hB : ∀ q, q < w.heap.size → B' q → B q) : held Z' B' w i' (b.ren f) := by
 cases b with
 | var T cs =>
  obtain ⟨q, us, h1, h2, h3, h4⟩ := h
  exact ⟨q, us, hz.trans h1, h2, AV.reps_ren hB cs hid _ h3, h4⟩
 | rowo T sz es cs =>
  obtain ⟨us, vs, h1, h2, h3, h4, h5, h6⟩ := h
  exact ⟨us, vs, by rw [hz]; exact h1, h2.mono (Upto.refl _) hB, AV.reps_ren hB cs hid _ h3, h4, by rw [zmi]; exact h5, h6⟩
 | row T sz es => exact zaK h hz rfl hB
 | full T sz es => exact zaK h hz rfl hB
 | rowk T sz es n c => exact zaK h hz rfl hB
 | mp l => exact zaK h hz rfl hB
 | obj o => exact zaK h hz rfl hB
/-! ## New slices in what the lent variables hold then -/
def zfE : Blk → Nat → Blk × List Blk
 | .var T cs, k => (.var T (AV.unfrs cs k).1, (AV.unfrs cs k).2)
 | .rowo T sz es cs, k => (.rowo T sz es (AV.unfrs cs k).1, (AV.unfrs cs k).2)
 | .row T sz es, _ => (.row T sz es, [])
 | .full T sz es, _ => (.full T sz es, [])
 | .rowk T sz es n c, _ => (.rowk T sz es n c, [])
 | .mp l, _ => (.mp l, [])
 | .obj o, _ => (.obj o, [])
def zbD : List (Option Blk) → Nat → List (Option Blk) × List Blk
 | [], _ => ([], [])
 | none :: l, k => (none :: (zbD l k).1, (zbD l k).2)
 | some b :: l, k => (some (zfE b k).1 :: (zbD l (k + (zfE b k).2.length)).1, (zfE b k).2 ++ (zbD l (k + (zfE b k).2.length)).2)
def zde (k : Nat) (pre : List Blk) (r : AV) (post : List (Option Blk)) : Sp :=
 ⟨true, numd 0 pre, (r.unfr k).1, zbu 0 (zbD post (k + (r.unfr k).2.length)).1, (r.unfr k).2 ++ (zbD post (k + (r.unfr k).2.length)).2⟩
def zgT (P : Program) (f : FuncId) (args : List AV) (pre : List Blk) (r : AV) (post : List (Option Blk)) : Prop :=
 ∀ (w : World) (Z : Nat → Value) (M : Nat → Prop) (k : Nat) (us : List Value), (∀ x, M x → x < w.heap.size) → pre.length ≤ k → AV.reps Z M w args us →
  (∀ i b, (i, b) ∈ numd 0 pre → held Z M w i b ∧ ∀ x, blk (Z i) = some x → M x) →
  (∀ i j b c, (i, b) ∈ numd 0 pre → (j, c) ∈ numd 0 pre → i ≠ j → ∀ x, blk (Z i) = some x → blk (Z j) ≠ some x) →
  Calls P f us.toArray w fun e w' => ∃ v, e = .returned v ∧ zjw k (zde k pre r post) Z M w v w'
theorem zeM : ∀ (l : List (Option Blk)) (k : Nat), (zbD l k).1.length = l.length
 | [], k => rfl
 | none :: l, k => by rw [zbD, List.length_cons, List.length_cons, zeM l k]
 | some b :: l, k => by rw [zbD, List.length_cons, List.length_cons, zeM l _]
theorem zfb : ∀ (l : List (Option Blk)) (k i : Nat), (zbD l k).1[i]? = some none ↔ l[i]? = some none
 | [], k, i => by simp [zbD]
 | none :: l, k, 0 => by simp [zbD]
 | none :: l, k, i + 1 => by rw [zbD]; simpa using zfb l k i
 | some b :: l, k, 0 => by simp [zbD]
 | some b :: l, k, i + 1 => by rw [zbD]; simpa using zfb l _ i
theorem zpk (b : Blk) (k : Nat) : ∀ c ∈ (zfE b k).2, ∃ T sz es, c = .row T sz es := by
 intro c hc
 cases b with
 | var T cs => obtain ⟨T, sz, es, e, _⟩ := zeN cs k c hc; exact ⟨T, sz, es, e⟩
 | rowo T sz es cs => obtain ⟨T, sz, es, e, _⟩ := zeN cs k c hc; exact ⟨T, sz, es, e⟩
 | _ => cases hc
theorem zhM : ∀ (l : List (Option Blk)) (k : Nat), ∀ c ∈ (zbD l k).2, ∃ T sz es, c = .row T sz es
 | [], k, c, h => by cases h
 | none :: l, k, c, h => zhM l k c h
 | some b :: l, k, c, h => by
  rw [zbD, List.mem_append] at h
  rcases h with h | h
  ·exact zpk b k c h
  ·exact zhM l _ c h
/-! ## The contract from the walk -/
inductive RtB (H : Nat → Option Blk) (L : Nat) (G : List Nat) : Blk → Blk → List Nat → Prop
 | row (T sz es) : RtB H L G (.row T sz es) (.row T sz es) []
 | full (T sz es) : RtB H L G (.full T sz es) (.full T sz es) []
 | rowk (T sz es n c) : RtB H L G (.rowk T sz es n c) (.rowk T sz es n c) []
 | mp (l) : RtB H L G (.mp l) (.mp l) []
 | obj (o) : RtB H L G (.obj o) (.obj o) []
 | var (T cs ds F) : RtL H L G cs ds F → RtB H L G (.var T cs) (.var T ds) F
 | rowo (T sz es cs ds F) : RtL H L G cs ds F → RtB H L G (.rowo T sz es cs) (.rowo T sz es ds) F
inductive RtP (H : Nat → Option Blk) (L : Nat) (G : List Nat) : Nat → List (Option Blk) → List Nat → Prop
 | nil (i) : RtP H L G i [] []
 | no (i l F) : RtP H L G (i + 1) l F → RtP H L G i (none :: l) F
 | so (i l b' b F F') : H i = some b' → RtB H L G b' b F → RtP H L G (i + 1) l F' → RtP H L G i (some b :: l) (F ++ F')
section
variable {H : Nat → Option Blk} {L : Nat} {G : List Nat} {Z Z' : Nat → Value} {B B' : Nat → Prop} {w : World}
theorem RtB.nums {b' b : Blk} {F : List Nat} (h : RtB H L G b' b F) (k : Nat) : (zfE b k).2.length = F.length ∧ ∀ (j : Nat) (c : Blk), (zfE b k).2[j]? = some c → ∃ i T sz es, F[j]? = some i ∧ H i = some c ∧ c = .row T sz es := by
 cases h with
 | var T cs ds F h => exact h.nums k
 | rowo T sz es cs ds F h => exact h.nums k
 | _ => simp [zfE]
theorem RtP.nums : ∀ {i : Nat} {l : List (Option Blk)} {F : List Nat} (_ : RtP H L G i l F) (k : Nat), (zbD l k).2.length = F.length ∧ ∀ (j : Nat) (c : Blk), (zbD l k).2[j]? = some c → ∃ i T sz es, F[j]? = some i ∧ H i = some c ∧ c = .row T sz es
 | _, _, _, .nil i, k => by simp [zbD]
 | _, _, _, .no i l F h, k => RtP.nums h k
 | _, _, _, .so i l b' b F F' h0 h1 h2, k => by
  rw [zbD]
  obtain ⟨e1, g1⟩ := h1.nums k
  obtain ⟨e2, g2⟩ := RtP.nums h2 (k + (zfE b k).2.length)
  refine ⟨by rw [List.length_append, List.length_append, e2, e1], fun j c hc => ?_⟩
  rcases Nat.lt_or_ge j (zfE b k).2.length with hj | hj
  ·rw [List.getElem?_append_left hj] at hc
   obtain ⟨q, T, sz, es, h3, h4⟩ := g1 j c hc
   exact ⟨q, T, sz, es, by rw [List.getElem?_append_left (by omega)]; exact h3, h4⟩
  ·rw [List.getElem?_append_right hj] at hc
   obtain ⟨q, T, sz, es, h3, h4⟩ := g2 _ c hc
   exact ⟨q, T, sz, es, by rw [List.getElem?_append_right (by omega), ← e1]; exact h3, h4⟩
theorem RtL.len : ∀ {as ds : List AV} {F : List Nat}, RtL H L G as ds F → as.length = ds.length
 | _, _, _, .nil => rfl
 | _, _, _, .cons _ _ _ _ _ _ _ h => by rw [List.length_cons, List.length_cons, h.len]
theorem zkt : ∀ (ds : List AV) (k : Nat), (AV.unfrs ds k).1.length = ds.length
 | [], k => rfl
 | d :: ds, k => by rw [AV.unfrs, List.length_cons, List.length_cons, zkt ds _]
theorem RtB.held {i i' : Nat} {b' b : Blk} {F : List Nat} (h : RtB H L G b' b F) (hh : held Z B w i b') (hz : Z' i' = Z i) (hB : ∀ k, k < w.heap.size → B' k → B k) (hG : ∀ j b, j ∈ G → H j = some b → Go.Ab.held Z B w j b ∧ ∀ x, blk (Z j) = some x → ¬ B' x) (hL : ∀ i, i < L → Z' i = Z i)
  (k : Nat) (hk : ∀ (j q : Nat), F[j]? = some q → Z' (k + j) = Z q) : Go.Ab.held Z' B' w i' (zfE b k).1 := by
 cases h with
 | row T sz es => exact zaK hh hz rfl hB
 | full T sz es => exact zaK hh hz rfl hB
 | rowk T sz es n c => exact zaK hh hz rfl hB
 | mp l => exact zaK hh hz rfl hB
 | obj o => exact zaK hh hz rfl hB
 | var T cs ds F h =>
  obtain ⟨q, us, h1, h2, h3, h4⟩ := hh
  exact ⟨q, us, hz.trans h1, h2, h.reps hB hG hL k hk _ h3, h4⟩
 | rowo T sz es cs ds F h =>
  obtain ⟨us, vs, h1, h2, h3, h4, h5, h6⟩ := hh
  exact ⟨us, vs, by rw [hz]; exact h1, h2.mono (Upto.refl _) hB, h.reps hB hG hL k hk _ h3, h4, by rw [zkt, ← h.len]; exact h5, h6⟩
theorem RtP.get : ∀ {i : Nat} {l : List (Option Blk)} {F : List Nat} (_ : RtP H L G i l F) (k : Nat) {q : Nat} {c : Blk}, (q, some c) ∈ zbu i (zbD l k).1 → ∃ b' b F' k', H q = some b' ∧ RtB H L G b' b F' ∧ c = (zfE b (k + k')).1 ∧ ∀ (j x : Nat), F'[j]? = some x → F[k' + j]? = some x
 | _, _, _, .nil i, k, q, c, h => by cases h
 | _, _, _, .no i l F h, k, q, c, hq => by
  rw [zbD, zbu, List.mem_cons] at hq
  rcases hq with e | hq
  ·cases e
  ·exact RtP.get h k hq
 | _, _, _, .so i l b' b F F' h0 h1 h2, k, q, c, hq => by
  rw [zbD, zbu, List.mem_cons] at hq
  have e1 := (h1.nums k).1
  rcases hq with e | hq
  ·injection e with e2 e3
   injection e3 with e3
   subst e2 e3
   refine ⟨b', b, F, 0, h0, h1, rfl, fun j x hj => ?_⟩
   rw [Nat.zero_add, List.getElem?_append_left (zbK hj)]
   exact hj
  ·obtain ⟨c', d, F2, k', g1, g2, g3, g4⟩ := RtP.get h2 _ hq
   refine ⟨c', d, F2, F.length + k', g1, g2, by rw [g3, e1, Nat.add_assoc], fun j x hj => ?_⟩
   have := g4 j x hj
   rw [List.getElem?_append_right (by omega), show F.length + k' + j - F.length = k' + j by omega]
   exact this
end
def zjg (L : Ln) (F G : List Nat) : Bool := (F.all fun i => Nat.ble L.n i || Nat.blt i L.m) && (G.all fun i => Nat.beq L.m 0 && Nat.ble L.n i && F.all fun j => !Nat.beq i j) && decide F.Nodup
structure zng (P : Program) (L : Ln) (fn : Func) (S : St) (r : AV) (post : List (Option Blk)) : Prop where
 ex : ∃ x F F' G, ResA P S fn x ∧ Rt S.HF L.n G x r F ∧ RtP S.HF L.n G 0 post F' ∧ zjg L (F ++ F') G = true
theorem zm6 {P : Program} {fn : Func} {S : St} {r : AV} {pre : List Blk} {post : List (Option Blk)} {C : Cx} {a : Act} {w : World} {k : Nat} (hs : Sim C S a w) (hpl : post.length = C.nl) (hmv : C.ln.m = zcp post) (hk : C.nl ≤ k) (hr : zng P C.ln fn S r post) :
  ∃ v, (results fn a.tmps).run P w = .ok v w ∧ zjw k (zde k pre r post) C.Z0 C.M0 C.w0 v w := by
 obtain ⟨Z, hs⟩ := hs
 obtain ⟨⟨x, F1, F2, G, hx, hrt, hrp, hn⟩⟩ := hr
 obtain ⟨v, hv, hrep⟩ := hx.run hs
 unfold zjg at hn
 simp only [Bool.and_eq_true, List.all_eq_true, zcf, zbE, Bool.or_eq_true, decide_eq_true_eq] at hn
 obtain ⟨⟨n1, n2⟩, n3⟩ := hn
 obtain ⟨hl, hb⟩ := hrt.nums k
 obtain ⟨hl2, hb2⟩ := hrp.nums (k + (r.unfr k).2.length)
 generalize hF : F1 ++ F2 = F at *
 refine ⟨v, hv, fun i => if k ≤ i ∧ i < k + F.length then Z (F.getD (i - k) 0) else C.Z0 i, ?_⟩
 generalize hZ : (fun i => if k ≤ i ∧ i < k + F.length then Z (F.getD (i - k) 0) else C.Z0 i) = Z'
 have hZ1 : ∀ (j i : Nat), F[j]? = some i → Z' (k + j) = Z i := by
  intro j i hj
  have hjl : j < F.length := zbK hj
  rw [← hZ]
  simp only
  rw [if_pos (by omega), show k + j - k = j by omega, List.getD_eq_getElem?_getD, hj]
  rfl
 have hZ2 : ∀ i, i < C.nl → Z' i = Z i := by
  intro i hi
  rw [← hZ]
  simp only
  rw [if_neg (by omega), (hs.zl i hi).1]
 have hlen : (zde k pre r post).frs.length = F.length := by
  show ((r.unfr k).2 ++ (zbD post (k + (r.unfr k).2.length)).2).length = F.length
  rw [← hF, List.length_append, List.length_append, hl, ← hl2, hl]
 have hfrb : ∀ (j : Nat) (b : Blk), (zde k pre r post).frs[j]? = some b → ∃ i T sz es, F[j]? = some i ∧ S.HF i = some b ∧ b = .row T sz es := by
  intro j b hj
  have hj : ((r.unfr k).2 ++ (zbD post (k + (r.unfr k).2.length)).2)[j]? = some b := hj
  rcases Nat.lt_or_ge j (r.unfr k).2.length with h | h
  ·rw [List.getElem?_append_left h] at hj
   obtain ⟨i, T, sz, es, g1, g2⟩ := hb j b hj
   exact ⟨i, T, sz, es, by rw [← hF, List.getElem?_append_left (by omega)]; exact g1, g2⟩
  ·rw [List.getElem?_append_right h] at hj
   obtain ⟨i, T, sz, es, g1, g2⟩ := hb2 _ b hj
   exact ⟨i, T, sz, es, by rw [← hF, List.getElem?_append_right (by omega), ← hl]; exact g1, g2⟩
 have hfr : ∀ j, j < F.length → ∃ i b, F[j]? = some i ∧ S.HF i = some b ∧ i ∈ F := by
  intro j hj
  have h1 : (zde k pre r post).frs[j]? = some ((zde k pre r post).frs[j]'(by omega)) := List.getElem?_eq_getElem _
  obtain ⟨i, T, sz, es, h2, h3, _⟩ := hfrb j _ h1
  exact ⟨i, _, h2, h3, List.mem_of_getElem? h2⟩
 have hB : ∀ q, q < w.heap.size → New k (zde k pre r post) Z' C.M0 q → Own C S.HF Z q := by
  rintro q _ (h0 | ⟨j, hj, hjq⟩)
  ·exact .inl h0
  ·obtain ⟨i, b, h1, h2, _⟩ := hfr j (by omega)
   rw [hZ1 j i h1] at hjq
   exact .inr ⟨i, b, h2, hjq⟩
 have hG : ∀ j b, j ∈ G → S.HF j = some b → held Z (Own C S.HF Z) w j b ∧ ∀ x, blk (Z j) = some x → ¬ New k (zde k pre r post) Z' C.M0 x := by
  intro j b hj hjb
  refine ⟨(hs.holds j b hjb).1, fun x hx => ?_⟩
  obtain ⟨⟨g0, g1⟩, g2⟩ := n2 j hj
  have g0 := Nat.eq_of_beq_eq_true g0
  rintro (h0 | ⟨q, hq, hqx⟩)
  ·have := hs.m0 x h0
   rcases hs.fresh j b x hjb hx with h3 | h3 | ⟨q, h3, _⟩
   ·unfold Cx.nl at h3; omega
   ·omega
   ·omega
  ·obtain ⟨i, c, h1, h2, h3⟩ := hfr q (by omega)
   rw [hZ1 q i h1] at hqx
   have hne : j ≠ i := fun e => by have := g2 i h3; simp [e] at this
   exact hs.dist j i b c hjb h2 hne x hx hqx
 refine ⟨fun i hi => ?_, hrt.rep hB hG hZ2 k (fun j i hj => hZ1 j i (by rw [← hF, List.getElem?_append_left (zbK hj)]; exact hj)) v hrep, fun i b hib => ?_, fun j b hjb => ?_, fun j j' q hj hj' hne h1 h2 => ?_, fun j q hj hq => ?_, ?_⟩
 ·rw [← hZ]
  simp only
  rw [if_neg (by omega)]
 ·have hm : (i, some b) ∈ zbu 0 (zbD post (k + (r.unfr k).2.length)).1 := hib
  obtain ⟨b', b0, F', k', g1, g2, g3, g4⟩ := hrp.get _ hm
  have hi : i < C.nl := by
   have h3 := (zbj.1 hm).2
   have := zbK h3
   rw [zeM] at this
   omega
  subst g3
  refine g2.held (hs.holds i b' g1).1 (hZ2 i hi) hB hG hZ2 _ fun j q hj => ?_
  rw [Nat.add_assoc, Nat.add_assoc]
  refine hZ1 _ q ?_
  rw [← hF, hl, List.getElem?_append_right (by omega), show F1.length + (k' + j) - F1.length = k' + j by omega]
  exact g4 j q hj
 ·obtain ⟨i, T, sz, es, h1, h2, h3⟩ := hfrb j b hjb
  subst h3
  obtain ⟨us, g1, g2, g3⟩ := (hs.holds i _ h2).1
  exact ⟨us, by rw [hZ1 j i h1]; exact g1, g2.mono (Upto.refl _) hB, g3⟩
 ·obtain ⟨i, b, h3, h4, _⟩ := hfr j (by omega)
  obtain ⟨i', b', h5, h6, _⟩ := hfr j' (by omega)
  rw [hZ1 j i h3] at h1
  rw [hZ1 j' i' h5] at h2
  refine hs.dist i i' b b' h4 h6 (fun e => hne ?_) q h1 h2
  subst e
  have hj1 : j < F.length := by omega
  have hj2 : j' < F.length := by omega
  rw [List.getElem?_eq_getElem hj1] at h3
  rw [List.getElem?_eq_getElem hj2] at h5
  injection h3 with h3
  injection h5 with h5
  have hp := List.pairwise_iff_getElem.1 n3
  rcases Nat.lt_trichotomy j j' with h | h | h
  ·exact absurd (h3.trans h5.symm) (hp j j' hj1 hj2 h)
  ·exact h
  ·exact absurd (h5.trans h3.symm) (hp j' j hj2 hj1 h)
 ·obtain ⟨i, b, h3, h4, h5⟩ := hfr j (by omega)
  rw [hZ1 j i h3] at hq
  have hmv' : ∀ p, p < C.ln.m → blk (C.Z0 p) = some q → ∃ i, (i, none) ∈ (zde k pre r post).up ∧ blk (C.Z0 i) = some q := fun p hp hpq =>
   ⟨p, zbj.2 ⟨Nat.zero_le _, by rw [Nat.sub_zero]; exact (zfb _ _ _).2 (zgg post p (by omega))⟩, hpq⟩
  rcases n1 i h5 with h | h
  ·rcases hs.fresh i b q h4 hq with h6 | h6 | ⟨p, h6, h7⟩
   ·unfold Cx.nl at h6; omega
   ·exact .inl h6
   ·exact .inr (hmv' p h6 h7)
  ·exact .inr (hmv' i h (by rw [← (hs.zl i (Nat.lt_of_lt_of_le h hs.lm)).1]; exact hq))
 ·refine hs.frame.mono fun q _ => ?_
  rintro ⟨i, hi, hiq⟩
  have : i < (zbD post (k + (r.unfr k).2.length)).1.length := by rw [zeM]; omega
  exact ⟨i, (zbD post (k + (r.unfr k).2.length)).1[i], zbj.2 ⟨Nat.zero_le _, by simp [this]⟩, hiq⟩
theorem zn1 {P : Program} {f : FuncId} {fn : Func} {c : Code} {args : List AV} {pre : List Blk} {post : List (Option Blk)} {r : AV} (hf : P.funcs[f]? = some fn) (hb : fn.body = some c) (hn : args.length ≤ fn.ntmps) (hok : zh1 args pre = true) (hpl : post.length = pre.length)
  (h : awp P ⟨pre.length, zcp post⟩ fn.ntmps c (fun e S => (e = .normal ∨ e = .ret) ∧ zng P ⟨pre.length, zcp post⟩ fn S r post) (St0 args pre)) : zgT P f args pre r post := by
 intro w Z M k us hM hk hargs hpre hdist
 unfold zh1 at hok
 simp only [Bool.and_eq_true, List.all_eq_true, zbE] at hok
 obtain ⟨o1, o2⟩ := hok
 have hlen := AV.reps_len hargs
 let C : Cx := ⟨P, w, M, Z, ⟨pre.length, zcp post⟩, fn.ntmps, []⟩
 have hmv : zcp post ≤ pre.length := by
  have : ∀ l : List (Option Blk), zcp l ≤ l.length := by
   intro l
   induction l with
   | nil => exact Nat.le_refl _
   | cons x l ih => cases x <;> simp [zcp]; omega
  have := this post
  omega
 have hH : ∀ i b, (St0 args pre).HF i = some b → (i, b) ∈ numd 0 pre := fun i b h => zib 0 pre i b h
 have hlt : ∀ i b, (i, b) ∈ numd 0 pre → i < pre.length ∧ b ∈ pre := by
  intro i b h
  have h1 := (zfP.1 h).2
  rw [Nat.sub_zero] at h1
  exact ⟨zbK h1, List.mem_of_getElem? h1⟩
 have hB : ∀ q, q < w.heap.size → Own C (St0 args pre).HF Z q → M q := by
  rintro q _ (h0 | ⟨i, b, h1, h2⟩)
  ·exact h0
  ·exact (hpre i b (hH i b h1)).2 q h2
 have S : Sim C (St0 args pre) { tmps := us.toArray ++ Array.replicate (fn.ntmps - us.toArray.size) undef, defers := [] } w := by
  refine ⟨Z, by simp [C]; omega, rfl, Upto.refl _, hM, fun t => ?_, fun t i hi => ?_, fun i b hb => ?_, fun i j b c hi hj hij => ?_, fun i b x hi hx => .inl (hlt i b (hH i b hi)).1, hmv, fun i hi => ⟨rfl, hi⟩⟩
  ·show (get (numE 0 args) t).rep _ _ _ _
   rw [zdX, if_pos (Nat.zero_le _), Nat.sub_zero, List.getD_eq_getElem?_getD]
   cases ht : args[t]? with
   | none => simp only [Option.getD_none, AV.rep]
   | some x =>
    obtain ⟨u, hu, hr⟩ := AV.reps_get hargs ht
    simp only [Option.getD_some]
    refine AV.rep_mono (Upto.refl _) hB x (fun _ _ => rfl) _ ?_
    have htl : t < us.length := zbK hu
    have : (us.toArray ++ Array.replicate (fn.ntmps - us.toArray.size) undef).getD t undef = u := by
     rw [Array.getD_eq_getD_getElem?, Array.getElem?_append_left (by simpa using htl)]
     simp [hu]
    rw [this]; exact hr
  ·have hi' : i ∈ (get (numE 0 args) t).ids := hi
   rw [zdX, if_pos (Nat.zero_le _), Nat.sub_zero, List.getD_eq_getElem?_getD] at hi'
   cases ht : args[t]? with
   | none => rw [ht] at hi'; simp [AV.ids] at hi'
   | some x => rw [ht] at hi'; exact o1 i (za5 (List.mem_of_getElem? ht) hi')
  ·have h1 := hH i b hb
   obtain ⟨h2, h3⟩ := hlt i b h1
   exact ⟨(hpre i b h1).1.anti hB, h2, fun j hj => o2 b h3 j hj⟩
  ·exact hdist i j b c (hH i b hi) (hH j c hj) hij
 refine calls_of_wp hf hb (Code.wp_mono (fun e a' w' ⟨S', ⟨he, hr⟩, hS'⟩ => ?_) (h C rfl rfl rfl _ _ S))
 obtain ⟨v, hv, hA⟩ := zm6 (pre := pre) (k := k) hS' hpl rfl hk hr
 have hdf : a'.defers = [] := by obtain ⟨Z, h⟩ := hS'; exact h.defers
 rcases he with rfl | rfl
 ·exact ⟨hdf, v, hv, v, rfl, hA⟩
 ·exact ⟨hdf, v, hv, v, rfl, hA⟩
/-! ## A call by such a contract -/
def jren (J : List Nat) (i : Nat) : Nat := bif Nat.blt i J.length then J.getD i 0 else i
def zj5 (J : List Nat) (n : Nat) (r : AV) (post : List (Option Blk)) : List (Option Blk) := (zbD post (n + (r.unfr n).2.length)).1.map (Option.map (Blk.ren (jren J)))
def frsX (n : Nat) (r : AV) (post : List (Option Blk)) : List Blk := (r.unfr n).2 ++ (zbD post (n + (r.unfr n).2.length)).2
inductive CfBs (H : Nat → Option Blk) (ρ : Nat → Nat) : List Blk → List Blk → Prop
 | nil : CfBs H ρ [] []
 | cons (a d as ds) : CfB H ρ [] a d → CfBs H ρ as ds → CfBs H ρ (a :: as) (d :: ds)
theorem CfBs.get {H : Nat → Option Blk} {ρ : Nat → Nat} : ∀ {as ds : List Blk}, CfBs H ρ as ds → ∀ {q : Nat} {b : Blk}, ds[q]? = some b → ∃ b', as[q]? = some b' ∧ CfB H ρ [] b' b
 | _, _, .nil, q, b, h => by simp at h
 | _, _, .cons a d as ds h1 h2, 0, b, h => by simp at h; subst h; exact ⟨a, rfl, h1⟩
 | _, _, .cons a d as ds h1 h2, q + 1, b, h => by simpa using h2.get (by simpa using h)
theorem CfBs.len {H : Nat → Option Blk} {ρ : Nat → Nat} : ∀ {as ds : List Blk}, CfBs H ρ as ds → as.length = ds.length
 | _, _, .nil => rfl
 | _, _, .cons _ _ _ _ _ h => by rw [List.length_cons, List.length_cons, h.len]
theorem CfB.heldG {H : Nat → Option Blk} {ρ : Nat → Nat} {G : List Nat} {Z Z' : Nat → Value} {B B' : Nat → Prop} {w : World} {i i' : Nat} {b' b : Blk} (h2 : CfB H ρ G b' b) (h3 : held Z B w i b') (hz : Z' i' = Z i) (hid : ∀ j ∈ b.ids, Z' j = Z (ρ j)) (hB : ∀ q, q < w.heap.size → B' q → B q) (hG : ∀ j b, j ∈ G → H j = some b → Go.Ab.held Z B w j b ∧ ∀ x, blk (Z j) = some x → ¬ B' x) : Go.Ab.held Z' B' w i' b := by
 cases h2 with
 | row T sz es => exact zaK h3 hz rfl hB
 | full T sz es => exact zaK h3 hz rfl hB
 | rowk T sz es n c => exact zaK h3 hz rfl hB
 | mp l => exact zaK h3 hz rfl hB
 | obj o => exact zaK h3 hz rfl hB
 | var T cs ds hc =>
  obtain ⟨q, us, g1, g2, g3, g4⟩ := h3
  exact ⟨q, us, hz.trans g1, g2, CfL.reps hB hG hc hid _ g3, g4⟩
 | rowo T sz es cs ds hc =>
  obtain ⟨us, vs, g1, g2, g3, g4, g5, g6⟩ := h3
  exact ⟨us, vs, by rw [hz]; exact g1, g2.mono (Upto.refl _) hB, CfL.reps hB hG hc hid _ g3, g4, by rw [← hc.len]; exact g5, g6⟩
 | rowc T sz es cs e hc =>
  obtain ⟨us, vs, g1, g2, g3, g4, g5, g6⟩ := h3
  have g7 := CfL.reps (Z' := Z') hB hG hc (fun i hi => by
   rw [zbJ] at hi
   obtain ⟨c, hc, hci⟩ := hi
   obtain ⟨c', _, rfl⟩ := List.mem_map.1 hc
   simp [AV.ids] at hci) _ g3
  have g8 := hc.len
  rw [List.length_map] at g8
  refine ⟨us ++ vs, by rw [List.length_append, hz]; exact g1, ?_, fun x hx => ?_⟩
  ·rw [List.flatten_append]
   refine (g2.mono (Upto.refl _) hB).append ?_
   rw [show [e].flatten = e by simp]
   exact zeJ e g7 g6
  ·rcases List.mem_append.1 hx with hx | hx
   ·exact g4 x hx
   ·rw [List.mem_singleton] at hx; subst hx; omega
theorem CfB.held {H : Nat → Option Blk} {ρ : Nat → Nat} {Z Z' : Nat → Value} {B B' : Nat → Prop} {w : World} {i i' : Nat} {b' b : Blk} (h2 : CfB H ρ [] b' b) (h3 : held Z B w i b') (hz : Z' i' = Z i) (hid : ∀ j ∈ b.ids, Z' j = Z (ρ j)) (hB : ∀ q, q < w.heap.size → B' q → B q) : Go.Ab.held Z' B' w i' b := h2.heldG h3 hz hid hB fun j b h => by cases h
def preX (J : List Nat) (n m : Nat) (pre : List Blk) (post : List (Option Blk)) (up : List (Option Blk)) (ds : List AV) (L : Ln) : Bool :=
 Nat.ble J.length n && (J.all fun j => Nat.blt j n) && decide J.Nodup && Nat.beq pre.length J.length && Nat.beq post.length J.length && (pre.all fun b => b.ids.all fun i => Nat.blt i J.length) && (up.all fun b => match b with | some b => b.ids.all fun i => Nat.blt i J.length || (Nat.ble n i && Nat.blt i (n + m)) | none => true) &&
 ((AV.idss ds).all fun i => Nat.blt i J.length) && (zbg J post).all fun p => match p.2 with | none => Nat.blt p.1 L.m || Nat.ble L.n p.1 | some _ => true
section
variable {P : Program} {L : Ln} {N : Nat} {ops : Array Oper} {chk : List (Nat × Sp) → Bool} {Q : St → Prop} {l : List Oper} {E : List (Nat × AV)} {H : List (Nat × Option Blk)} {n : Nat} {tr : List (Nat × Sp)}
variable {d : Nat} {ty : TypeId} {pos : String} {af : Array Edge} {g : Option (Nat × Bool)}
theorem zsH {f : FuncId} {xs : Array Operand} {ats : Array TypeId} {ds : List AV} {r : AV} (J : List Nat) (pre : List Blk) (post : List (Option Blk)) (pre' : List Blk) (hm : zgT P f ds pre r post) (hargs : CfL (getH H) (fun i => J.getD i 0) [] (xs.toList.map (evA (get E))) ds) (hf : ziL P f = true)
  (hH : ∀ i b, (i, b) ∈ rdOf J pre' → getH H i = some b) (hcf : CfBs (getH H) (fun i => J.getD i 0) pre' pre) (hpre : preX J n (frsX n r post).length pre post (zbD post (n + (r.unfr n).2.length)).1 ds L = true) (hrng : rngB (r.unfr n).1 n (frsX n r post).length = true)
  (hd : Nat.blt d N = true) (hg : zbo ops (get E) ⟨some d, .call { callee := .value (.func f), args := xs, argTypes := ats }, ty, pos, af, g⟩ true)
  (h : wpA P L N ops chk Q l ⟨(d, (r.unfr n).1) :: E, frsL n (frsX n r post) ++ (zbg J (zj5 J n r post) ++ H), n + (frsX n r post).length⟩ ((n, ⟨true, rdOf J pre', (r.unfr n).1, zbg J (zj5 J n r post), frsX n r post⟩) :: tr)) :
  wpA P L N ops chk Q (⟨some d, .call { callee := .value (.func f), args := xs, argTypes := ats }, ty, pos, af, g⟩ :: l) ⟨E, H, n⟩ tr := by
 unfold preX at hpre
 simp only [Bool.and_eq_true, zcf, List.all_eq_true, zbE, decide_eq_true_eq] at hpre
 obtain ⟨⟨⟨⟨⟨⟨⟨⟨b1, b2⟩, b3⟩, b4⟩, b5⟩, b6⟩, b7⟩, b8⟩, b9⟩ := hpre
 have b4 := Nat.eq_of_beq_eq_true b4
 have b5 := Nat.eq_of_beq_eq_true b5
 have hl' := hcf.len
 generalize hFX : frsX n r post = FX at *
 have hmem : ∀ q, q < J.length → J.getD q 0 ∈ J := fun q hq => by rw [List.getD_eq_getElem?_getD, List.getElem?_eq_getElem hq]; exact List.getElem_mem hq
 have hJq : ∀ q, q < J.length → J[q]? = some (J.getD q 0) := fun q hq => by rw [List.getD_eq_getElem?_getD, List.getElem?_eq_getElem hq]; rfl
 have hjr : ∀ q, q < J.length → jren J q = J.getD q 0 := fun q hq => by unfold jren; rw [zbE.2 hq]; rfl
 have hjr2 : ∀ q, ¬ q < J.length → jren J q = q := fun q hq => by
  unfold jren
  have : Nat.blt q J.length = false := by cases hb : Nat.blt q J.length with
   | false => rfl
   | true => exact absurd (zbE.1 hb) hq
  rw [this]; rfl
 -- which blocks there are behind the call
 have hupx : ∀ j o, (j, o) ∈ zbg J (zj5 J n r post) ↔ ∃ q c, q < J.length ∧ J.getD q 0 = j ∧ (q, c) ∈ zbu 0 (zbD post (n + (r.unfr n).2.length)).1 ∧ o = c.map (Blk.ren (jren J)) := by
  intro j o
  rw [zcW]
  unfold zj5
  constructor
  ·rintro ⟨q, h1, h2⟩
   rw [List.getElem?_map, Option.map_eq_some_iff] at h2
   obtain ⟨c, h2, rfl⟩ := h2
   exact ⟨q, c, zbK h1, zn2 h1, zbj.2 ⟨Nat.zero_le _, by simpa using h2⟩, rfl⟩
  ·rintro ⟨q, c, h1, h2, h3, rfl⟩
   exact ⟨q, by rw [hJq q h1, h2], by rw [List.getElem?_map, show (zbD post (n + (r.unfr n).2.length)).1[q]? = some c by simpa using (zbj.1 h3).2]; rfl⟩
 have hids : ∀ q c, (q, some c) ∈ zbu 0 (zbD post (n + (r.unfr n).2.length)).1 → ∀ i ∈ c.ids, i < J.length ∨ n ≤ i ∧ i < n + FX.length := by
  intro q c hq i hi
  have := b7 _ (List.mem_of_getElem? (zbj.1 hq).2)
  simp only [List.all_eq_true, Bool.or_eq_true, Bool.and_eq_true, zbE, zcf] at this
  exact this i hi
 have hfrow : ∀ b ∈ FX, ∃ T sz es, b = .row T sz es := by
  intro b hb
  rw [← hFX] at hb
  unfold frsX at hb
  rcases List.mem_append.1 hb with hb | hb
  ·obtain ⟨T, sz, es, e, _⟩ := zfc r n b hb; exact ⟨T, sz, es, e⟩
  ·exact zhM _ _ b hb
 refine ⟨⟨true, rdOf J pre', (r.unfr n).1, zbg J (zj5 J n r post), FX⟩, ⟨fun x hx => ?_, hg, fun _ a w Z M hM hr hh hdist => ?_, (fun h => by cases h), fun D hD hDH hfree => ?_⟩, h⟩
 ·injection hx with hx; subst hx; exact zbE.1 hd
 ·have hr' : ∀ x ∈ xs.toList, (evA (get E) x).rep Z M w (a.eval x) := fun x hx => hr x (by show x ∈ (#[Operand.func f] ++ xs).toList; rw [Array.toList_append]; exact List.mem_append_right _ hx)
  have hreps : AV.reps Z M w (xs.toList.map (evA (get E))) (xs.toList.map a.eval) := by
   revert hr'
   generalize xs.toList = ys
   intro hr'
   induction ys with
   | nil => rw [List.map_nil, AV.reps]; rfl
   | cons y ys ih => rw [List.map_cons, List.map_cons, AV.reps]; exact ⟨_, _, rfl, hr' y (by simp), ih fun x hx => hr' x (by simp [hx])⟩
  let Zc : Nat → Value := fun i => if i < J.length then Z (J.getD i 0) else Z i
  have hZc : ∀ i, i < J.length → Zc i = Z (J.getD i 0) := fun i hi => if_pos hi
  have hargs' := CfL.reps (Z := Z) (Z' := Zc) (B := M) (B' := M) (w := w) (fun _ _ h => h) (fun j b hj hb => by cases hj) hargs (fun i hi => hZc i (b8 i hi)) _ hreps
  have hrdq : ∀ i b, (i, b) ∈ numd 0 pre → ∃ b', i < J.length ∧ (J.getD i 0, b') ∈ rdOf J pre' ∧ b ∈ pre ∧ CfB (getH H) (fun i => J.getD i 0) [] b' b := by
   intro i b hib
   have h1 := (zfP.1 hib).2
   rw [Nat.sub_zero] at h1
   have h2 := zbK h1
   obtain ⟨b', h3, h4⟩ := hcf.get h1
   exact ⟨b', by omega, ze8.2 ⟨i, hJq i (by omega), h3⟩, List.mem_of_getElem? h1, h4⟩
  have hinj : ∀ i j, i < J.length → j < J.length → i ≠ j → J.getD i 0 ≠ J.getD j 0 := by
   intro i j hi hj hij he
   have h1 := hJq i hi
   have h2 := hJq j hj
   rw [List.getElem?_eq_getElem hi] at h1
   rw [List.getElem?_eq_getElem hj] at h2
   injection h1 with h1
   injection h2 with h2
   have hp := List.pairwise_iff_getElem.1 b3
   rcases Nat.lt_trichotomy i j with h | h | h
   ·exact hp i j hi hj h (by rw [h1, h2, he])
   ·exact hij h
   ·exact hp j i hj hi h (by rw [h1, h2, he])
  have hc := hm w Zc M n (xs.toList.map a.eval) hM (by omega) hargs' (fun i b hib => by
   obtain ⟨b', h1, h2, h3, h4⟩ := hrdq i b hib
   obtain ⟨h5, h6⟩ := hh _ b' h2
   exact ⟨h4.held h5 (hZc i h1) (fun j hj => hZc j (b6 b h3 j hj)) (fun _ _ h => h), fun x hx => h6 x (by rw [← hZc i h1]; exact hx)⟩) (fun i j b c hi hj hij x hx => by
   obtain ⟨b', h1, h2, _⟩ := hrdq i b hi
   obtain ⟨c', h3, h4, _⟩ := hrdq j c hj
   rw [hZc i h1] at hx
   rw [hZc j h3]
   exact hdist _ _ b' c' h2 h4 (hinj i j h1 h3 hij) x hx)
  refine zeW (zfJ hf a w) ?_
  have he : (xs.toList.map a.eval).toArray = xs.map a.eval := by rw [← Array.toList_map]
  rw [he] at hc
  refine hc.mono fun e w' ⟨v, h1, Z1, A⟩ => ⟨v, h1, fun i => if n ≤ i ∧ i < n + FX.length then Z1 i else Z i, ?_⟩
  have hfx : (zde n pre r post).frs = FX := hFX
  generalize hZ2 : (fun i => if n ≤ i ∧ i < n + FX.length then Z1 i else Z i) = Z2
  have z1 : ∀ i, n ≤ i → i < n + FX.length → Z2 i = Z1 i := fun i h1 h2 => by rw [← hZ2]; exact if_pos ⟨h1, h2⟩
  have z2 : ∀ i, (i < n ∨ n + FX.length ≤ i) → Z2 i = Z i := fun i h1 => by rw [← hZ2]; exact if_neg (by omega)
  have hN : ∀ q, q < w'.heap.size → New n ⟨true, rdOf J pre', (r.unfr n).1, zbg J (zj5 J n r post), FX⟩ Z2 M q → New n (zde n pre r post) Z1 M q := by
   rintro q _ (h0 | ⟨j, hj, hq⟩)
   ·exact .inl h0
   ·have hj' : j < FX.length := hj
    rw [z1 (n + j) (by omega) (by omega)] at hq
    exact .inr ⟨j, by rw [hfx]; exact hj', hq⟩
  have hnl : ∀ q o, (q, o) ∈ zbu 0 (zbD post (n + (r.unfr n).2.length)).1 → q < J.length := fun q o h => by
   have := zbK (zbj.1 h).2
   rw [zeM] at this
   omega
  refine ⟨z2, ?_, fun j b hjb => ?_, fun j b hj => ?_, fun j j' x hj hj' hne h3 h4 => ?_, fun j x hj hx => ?_, A.upto.mono fun x _ ⟨i, o, hi, hx⟩ => ?_⟩
  ·refine AV.rep_mono (Upto.refl _) hN _ (fun i hi => ?_) _ A.out
   have := List.all_eq_true.1 hrng i hi
   rw [Bool.and_eq_true, zcf, zbE] at this
   exact z1 i this.1 this.2
  ·obtain ⟨q, c, h2, h3, h4, h5⟩ := (hupx j (some b)).1 hjb
   cases c with
   | none => cases h5
   | some c =>
    injection h5 with h5
    subst h5
    refine zpO (A.up q c h4) ?_ (fun i hi => ?_) hN
    ·rw [z2 j (.inl (b2 j (h3 ▸ hmem q h2))), A.z q (.inl (by omega)), hZc q h2, h3]
    ·by_cases hij : i < J.length
     ·rw [hjr i hij, z2 _ (.inl (b2 _ (hmem i hij))), A.z i (.inl (by omega)), hZc i hij]
     ·rw [hjr2 i hij]
      rcases hids q c h4 i hi with h | h
      ·exact absurd h hij
      ·exact z1 i h.1 h.2
  ·obtain ⟨T, sz, es, rfl⟩ := hfrow b (List.mem_of_getElem? hj)
   have hjl := zbK hj
   have hjl' : j < FX.length := hjl
   exact zaK (A.fr j _ (by rw [hfx]; exact hj)) (z1 (n + j) (by omega) (by omega)) rfl hN
  ·have k1 : j < FX.length := hj
   have k2 : j' < FX.length := hj'
   have h3' : blk (Z2 (n + j)) = some x := h3
   have h4' : blk (Z2 (n + j')) = some x := h4
   rw [z1 (n + j) (by omega) (by omega)] at h3'
   rw [z1 (n + j') (by omega) (by omega)] at h4'
   exact A.dist j j' x (by rw [hfx]; exact hj) (by rw [hfx]; exact hj') hne h3' h4'
  ·have k1 : j < FX.length := hj
   have hx' : blk (Z2 (n + j)) = some x := hx
   rw [z1 (n + j) (by omega) (by omega)] at hx'
   rcases A.fresh j x (by rw [hfx]; exact hj) hx' with h | ⟨i, hi, hix⟩
   ·exact .inl h
   ·have k2 := hnl i _ hi
    rw [hZc i k2] at hix
    exact .inr ⟨J.getD i 0, (hupx _ _).2 ⟨i, none, k2, rfl, hi, rfl⟩, hix⟩
  ·have k2 := hnl i _ hi
   rw [hZc i k2] at hx
   exact ⟨J.getD i 0, _, (hupx _ _).2 ⟨i, o, k2, rfl, hi, rfl⟩, hx⟩
 ·refine ⟨hH, fun i o h => ?_, fun i o h => zeE b3 h, fun i h => ?_, hfree, fun i hi => .inr ?_, fun b hb i hi => ?_, fun i b hib i' hi' => ?_⟩
  ·obtain ⟨q, h1, h2⟩ := zcW.1 h
   have h3 := zbK h1
   exact ⟨pre'[q]'(by omega), ze8.2 ⟨q, h1, List.getElem?_eq_getElem _⟩⟩
  ·obtain ⟨q, c, h1, h2, h3, h4⟩ := (hupx i none).1 h
   cases c with
   | some c => cases h4
   | none =>
    have h5 := (zfb _ _ _).1 (by simpa using (zbj.1 h3).2)
    have := b9 (i, none) (zcW.2 ⟨q, by rw [hJq q h1, h2], h5⟩)
    simp only [Bool.or_eq_true, zbE, zcf] at this
    exact this
  ·have := List.all_eq_true.1 hrng i hi
   rw [Bool.and_eq_true, zcf, zbE] at this
   exact this
  ·obtain ⟨T, sz, es, rfl⟩ := hfrow b hb
   simp [Blk.ids] at hi
  ·obtain ⟨q, c, h1, h2, h3, h4⟩ := (hupx i (some b)).1 hib
   cases c with
   | none => cases h4
   | some c =>
    injection h4 with h4
    subst h4
    rw [Blk.ren_ids] at hi'
    obtain ⟨x, hx, rfl⟩ := List.mem_map.1 hi'
    by_cases hij : x < J.length
    ·rw [hjr x hij]
     obtain ⟨b', hb'⟩ : ∃ b', pre'[x]? = some b' := ⟨_, List.getElem?_eq_getElem (by omega)⟩
     exact .inl (hDH _ b' (hH _ _ (ze8.2 ⟨x, hJq x hij, hb'⟩))).1
    ·rw [hjr2 x hij]
     rcases hids q c h3 x hx with h | h
     ·exact absurd h hij
     ·exact .inr h
end
abbrev Fam := List (Value × Blk)
def famH (K : Nat) (H : Nat → Option Blk) (F : Fam) (i : Nat) : Option Blk := if i < K then H i else (F[i - K]?).map (·.2)
structure SimK (C : Cx) (S : St) (F : Fam) (a : Act) (w : World) (Z : Nat → Value) (K : Nat) : Prop where
 le : S.nx ≤ K
 top : ∀ i, S.nx ≤ i → S.HF i = none
 eid : ∀ t, ∀ i ∈ (S.envF t).ids, i < S.nx
 bid : ∀ i b, S.HF i = some b → ∀ j ∈ b.ids, j < S.nx
 fam : ∀ j p, F[j]? = some p → Z (K + j) = p.1 ∧ p.2.ids = []
 sim : SimF C (fun i => i < S.nx ∨ (K ≤ i ∧ i < K + F.length)) S.envF (famH K S.HF F) Z a w
def SimX (C : Cx) (S : St) (F : Fam) (a : Act) (w : World) : Prop := ∃ Z K, SimK C S F a w Z K
theorem zeu {K : Nat} {H : Nat → Option Blk} {F : Fam} {i : Nat} (h : i < K) : famH K H F i = H i := if_pos h
theorem ziT {K : Nat} {H : Nat → Option Blk} {F : Fam} {j : Nat} : famH K H F (K + j) = (F[j]?).map (·.2) := by
 unfold famH; rw [if_neg (by omega), Nat.add_sub_cancel_left]
theorem zaZ {K : Nat} {H : Nat → Option Blk} {F : Fam} {i : Nat} {b : Blk} (h : famH K H F i = some b) : (i < K ∧ H i = some b) ∨ ∃ j p, i = K + j ∧ F[j]? = some p ∧ p.2 = b := by
 unfold famH at h
 split at h
 ·rename_i hi; exact .inl ⟨hi, h⟩
 ·rename_i hi
  rw [Option.map_eq_some_iff] at h
  obtain ⟨p, h1, h2⟩ := h
  exact .inr ⟨i - K, p, by omega, h1, h2⟩
section
variable {C : Cx} {S : St} {F : Fam} {a : Act} {w : World} {Z : Nat → Value} {K : Nat}
theorem SimK.hf (h : SimK C S F a w Z K) {i : Nat} {b : Blk} (hi : S.HF i = some b) : i < S.nx ∧ famH K S.HF F i = some b := by
 have h1 : i < S.nx := by
  rcases Nat.lt_or_ge i S.nx with h' | h'
  ·exact h'
  ·rw [h.top i h'] at hi; cases hi
 exact ⟨h1, by rw [zeu (Nat.lt_of_lt_of_le h1 h.le)]; exact hi⟩
theorem SimK.fm (h : SimK C S F a w Z K) {j : Nat} {p : Value × Blk} (hj : F[j]? = some p) : famH K S.HF F (K + j) = some p.2 := by rw [ziT, hj]; rfl
theorem SimK.of_sim (h : Sim C S a w) : SimX C S [] a w := by
 obtain ⟨Z, h⟩ := h
 have top : ∀ i, S.nx ≤ i → S.HF i = none := fun i hi => by
  cases hb : S.HF i with
  | none => rfl
  | some b => have := (h.holds i b hb).2.1; omega
 have e : famH S.nx S.HF [] = S.HF := by
  funext i
  unfold famH
  split
  ·rfl
  ·rename_i hi; rw [top i (by omega)]; rfl
 refine ⟨Z, S.nx, Nat.le_refl _, top, h.ids, fun i b hb => (h.holds i b hb).2.2, fun j p hj => by simp at hj, ?_⟩
 rw [e]
 exact h.monoD fun i hi => .inl hi
theorem SimX.sim (h : SimX C S [] a w) : Sim C S a w := by
 obtain ⟨Z, K, h⟩ := h
 have e : famH K S.HF [] = S.HF := by
  funext i
  unfold famH
  split
  ·rfl
  ·rename_i hi; rw [h.top i (by have := h.le; omega)]; rfl
 have hs := h.sim
 rw [e] at hs
 exact ⟨Z, hs.monoD fun i hi => by rcases hi with hi | hi
                                   · exact hi
                                   · simp at hi; omega⟩
/-! ## What a piece of code does not see, it leaves -/
theorem SimK.frame (hl : C.ln = ⟨0, 0⟩) (hfull : ∀ i, i < S.nx → ∃ b, S.HF i = some b) (h : SimK C S F a w Z K) :
  ∃ C1 : Cx, C1.P = C.P ∧ C1.N = C.N ∧ C1.ln = ⟨S.nx, S.nx⟩ ∧ Sim C1 S a w ∧ ∀ S' a' w', Sim C1 S' a' w' → ∃ Z' K', SimK C S' F a' w' Z' K' ∧ S.nx ≤ S'.nx ∧ (∀ i, i < S.nx → Z' i = Z i) ∧
   Upto (Own C (famH K S.HF F) Z) w w' ∧ ∀ k, k < w.heap.size → Own C (famH K' S'.HF F) Z' k → Own C (famH K S.HF F) Z k := by
 have hs := h.sim
 have hnl : C.nl = 0 := by unfold Cx.nl; rw [hl]
 have hm0 : C.ln.m = 0 := by rw [hl]
 refine ⟨⟨C.P, w, Own C (famH K S.HF F) Z, Z, ⟨S.nx, S.nx⟩, C.N, C.df⟩, rfl, rfl, rfl, ⟨Z, hs.size, hs.defers, Upto.refl _, hs.m_lt, fun t => ?_, h.eid, fun i b hb => ?_, fun i j b c hi hj hij => hs.dist i j b c (h.hf hi).2 (h.hf hj).2 hij, fun i b x hi hx => .inl (h.hf hi).1, Nat.le_refl _, fun i hi => ⟨rfl, hi⟩⟩, ?_⟩
 ·refine AV.rep_mono (Upto.refl _) (fun k _ hk => ?_) _ (fun _ _ => rfl) _ (hs.slots t)
  rcases hk with hk | ⟨i, b, hi, hx⟩
  ·exact hk
  ·exact .inr ⟨i, b, (h.hf hi).2, hx⟩
 ·refine ⟨((hs.holds i b (h.hf hb).2).1).anti fun k _ hk => ?_, (h.hf hb).1, fun j hj => h.bid i b hb j hj⟩
  rcases hk with hk | ⟨i, b, hi, hx⟩
  ·exact hk
  ·exact .inr ⟨i, b, (h.hf hi).2, hx⟩
 ·rintro S' a' w' ⟨Z', h'⟩
  have nlx : ∀ i, i < S.nx → ∃ b, famH K S.HF F i = some b := fun i hi => by
   obtain ⟨b, hb⟩ := hfull i hi
   exact ⟨b, (h.hf hb).2⟩
  -- what S' owns of what was there, S owned
  have old : ∀ i b x, S'.HF i = some b → blk (Z' i) = some x → (∃ q c, q < S.nx ∧ famH K S.HF F q = some c ∧ blk (Z q) = some x) ∨ w.heap.size ≤ x := by
   intro i b x hi hx
   rcases h'.fresh i b x hi hx with h1 | h1 | ⟨j, h1, h2⟩
   ·have h1 : i < S.nx := h1
    obtain ⟨c, hc⟩ := nlx i h1
    have e : Z' i = Z i := (h'.zl i h1).1
    exact .inl ⟨i, c, h1, hc, by rw [← e]; exact hx⟩
   ·exact .inr h1
   ·have h1 : j < S.nx := h1
    obtain ⟨c, hc⟩ := nlx j h1
    exact .inl ⟨j, c, h1, hc, h2⟩
  have top : ∀ i, S'.nx ≤ i → S'.HF i = none := fun i hi => by
   cases hb : S'.HF i with
   | none => rfl
   | some b => have := (h'.holds i b hb).2.1; omega
  have lo : ∀ i b, S'.HF i = some b → i < S'.nx := fun i b hi => (h'.holds i b hi).2.1
  generalize hZ : (fun i => if i < S'.nx then Z' i else Z (K + (i - S'.nx))) = Z2
  have z1 : ∀ i, i < S'.nx → Z2 i = Z' i := fun i hi => by rw [← hZ]; exact if_pos hi
  have z2 : ∀ j, Z2 (S'.nx + j) = Z (K + j) := fun j => by rw [← hZ]; simp only; rw [if_neg (by omega), Nat.add_sub_cancel_left]
  have flt : ∀ j p x, F[j]? = some p → blk (Z (K + j)) = some x → x < w.heap.size := fun j p x hj hx => (hs.holds _ _ (h.fm hj)).1.lt hx
  have hB2 : ∀ k, Own C (famH S'.nx S'.HF F) Z2 k → Own ⟨C.P, w, Own C (famH K S.HF F) Z, Z, ⟨S.nx, S.nx⟩, C.N, C.df⟩ S'.HF Z' k := by
   rintro k (hk | ⟨i, b, hi, hx⟩)
   ·exact .inl (.inl hk)
   ·rcases zaZ hi with ⟨h1, h2⟩ | ⟨j, p, rfl, h2, h3⟩
    ·rw [z1 i h1] at hx
     exact .inr ⟨i, b, h2, hx⟩
    ·rw [z2] at hx
     exact .inl (.inr ⟨K + j, _, h.fm h2, hx⟩)
  have hB1 : ∀ k, k < w.heap.size → Own C (famH S'.nx S'.HF F) Z2 k → Own C (famH K S.HF F) Z k := by
   rintro k hkl (hk | ⟨i, b, hi, hx⟩)
   ·exact .inl hk
   ·rcases zaZ hi with ⟨h1, h2⟩ | ⟨j, p, rfl, h2, h3⟩
    ·rw [z1 i h1] at hx
     rcases old i b k h2 hx with ⟨q, c, _, h3, h4⟩ | h3
     ·exact .inr ⟨q, c, h3, h4⟩
     ·omega
    ·rw [z2] at hx
     exact .inr ⟨K + j, _, h.fm h2, hx⟩
  have hU : Upto (Own C (famH K S.HF F) Z) w w' := h'.frame.mono fun x _ ⟨i, hi, hx⟩ => by
   obtain ⟨b, hb⟩ := nlx i hi
   exact .inr ⟨i, b, hb, hx⟩
  have hnx : S.nx ≤ S'.nx := by
   rcases Nat.lt_or_ge S'.nx S.nx with h9 | h9
   ·exact absurd (h'.zl S'.nx h9).2 (Nat.lt_irrefl _)
   ·exact h9
  refine ⟨Z2, S'.nx, ?_, hnx, fun i hi => (z1 i (Nat.lt_of_lt_of_le hi hnx)).trans (h'.zl i hi).1, hU, hB1⟩
  refine ⟨Nat.le_refl _, top, h'.ids, fun i b hb => (h'.holds i b hb).2.2, fun j p hj => ⟨by rw [z2]; exact (h.fam j p hj).1, (h.fam j p hj).2⟩, h'.size, h'.defers, ?_, hs.m0, fun t => ?_, fun t i hi => .inl (h'.ids t i hi), fun i b hi => ?_, fun i j b c hi hj hij x hx hx2 => ?_, fun i b x hi hx => ?_, hs.lm, fun i hi => by omega⟩
  ·refine ⟨h'.frame.os.trans hs.frame.os, h'.frame.tape.trans hs.frame.tape, h'.frame.output.trans hs.frame.output, Nat.le_trans hs.frame.size h'.frame.size, fun x hx hxl => ?_⟩
   refine (h'.frame.block x (Nat.lt_of_lt_of_le hx hs.frame.size) ?_).trans (hs.frame.block x hx hxl)
   rintro ⟨i, hi, hix⟩
   obtain ⟨b, hb⟩ := nlx i hi
   rcases hs.fresh i b x hb hix with h1 | h1 | ⟨j, h1, _⟩
   ·omega
   ·omega
   ·omega
  ·exact AV.rep_mono (Upto.refl _) (fun k _ hk => hB2 k hk) _ (fun i hi => z1 i (h'.ids t i hi)) _ (h'.slots t)
  ·rcases zaZ hi with ⟨h1, h2⟩ | ⟨j, p, rfl, h2, rfl⟩
   ·exact ⟨(h'.holds i b h2).1.keep (Upto.refl _) (fun k _ hk => hB2 k hk) (z1 i h1) (fun q hq => z1 q ((h'.holds i b h2).2.2 q hq)) (fun _ _ => rfl), .inl h1, fun q hq => .inl ((h'.holds i b h2).2.2 q hq)⟩
   ·obtain ⟨f1, f2⟩ := h.fam j p h2
    have g1 := (hs.holds _ _ (h.fm h2)).1
    have g2 : held Z (Own C (famH S'.nx S'.HF F) Z2) w' (K + j) p.2 := g1.keep hU hB1 rfl (fun _ _ => rfl) (fun x hx => by
     refine h'.frame.block x (flt j p x h2 hx) ?_
     rintro ⟨i, hi, hix⟩
     have hi : i < S.nx := hi
     obtain ⟨b, hb⟩ := nlx i hi
     exact hs.dist i (K + j) b p.2 hb (h.fm h2) (by have := h.le; omega) x hix hx)
    exact ⟨zaK g2 (z2 j) f2 (fun _ _ hq => hq), .inr ⟨by omega, by have := zbK h2; omega⟩, fun q hq => by rw [f2] at hq; cases hq⟩
  ·rcases zaZ hi with ⟨h1, h2⟩ | ⟨p, u, rfl, h2, rfl⟩ <;> rcases zaZ hj with ⟨h3, h4⟩ | ⟨q, v, rfl, h4, rfl⟩
   ·rw [z1 i h1] at hx; rw [z1 j h3] at hx2
    exact h'.dist i j b c h2 h4 hij x hx hx2
   ·rw [z1 i h1] at hx; rw [z2] at hx2
    rcases old i b x h2 hx with ⟨q', c', g0, g1, g2⟩ | g1
    ·exact hs.dist q' (K + q) c' v.2 g1 (h.fm h4) (by have := h.le; omega) x g2 hx2
    ·have := flt q v x h4 hx2; omega
   ·rw [z2] at hx; rw [z1 j h3] at hx2
    rcases old j c x h4 hx2 with ⟨q', c', g0, g1, g2⟩ | g1
    ·exact hs.dist q' (K + p) c' u.2 g1 (h.fm h2) (by have := h.le; omega) x g2 hx
    ·have := flt p u x h2 hx; omega
   ·rw [z2] at hx hx2
    exact hs.dist (K + p) (K + q) u.2 v.2 (h.fm h2) (h.fm h4) (by omega) x hx hx2
  ·rcases zaZ hi with ⟨h1, h2⟩ | ⟨j, p, rfl, h2, rfl⟩
   ·rw [z1 i h1] at hx
    rcases old i b x h2 hx with ⟨q, c, _, g1, g2⟩ | g1
    ·rcases hs.fresh q c x g1 g2 with g3 | g3 | ⟨j, g3, _⟩
     ·omega
     ·exact .inr (.inl g3)
     ·omega
    ·exact .inr (.inl (Nat.le_trans hs.frame.size g1))
   ·rw [z2] at hx
    rcases hs.fresh (K + j) p.2 x (h.fm h2) hx with g3 | g3 | ⟨j, g3, _⟩
    ·omega
    ·exact .inr (.inl g3)
    ·omega
theorem SimX.frame (hl : C.ln = ⟨0, 0⟩) (hfull : ∀ i, i < S.nx → ∃ b, S.HF i = some b) (h : SimX C S F a w) :
  ∃ C1 : Cx, C1.P = C.P ∧ C1.N = C.N ∧ C1.ln = ⟨S.nx, S.nx⟩ ∧ Sim C1 S a w ∧ ∀ S' a' w', Sim C1 S' a' w' → SimX C S' F a' w' := by
 obtain ⟨Z, K, h⟩ := h
 obtain ⟨C1, e1, e2, e3, g1, g2⟩ := h.frame hl hfull
 refine ⟨C1, e1, e2, e3, g1, fun S' a' w' hs => ?_⟩
 obtain ⟨Z', K', h', _⟩ := g2 S' a' w' hs
 exact ⟨Z', K', h'⟩
/-! ## Knowing less -/
theorem SimK.weaken (h : SimK C S F a w Z K) (hl : C.ln = ⟨0, 0⟩) (T : St) (l : List (Nat × Nat)) (G : List Nat) (hn : zbv C.ln T (rho l) G = true) (he : eLe S (rho l) G T.env) (hh : hLe S (rho l) G T.H) :
  ∃ Z', SimK C T F a w Z' T.nx ∧ (∀ i, i < T.nx → Z' i = Z (rho l i)) ∧ ∀ k, k < w.heap.size → Own C (famH T.nx T.HF F) Z' k → Own C (famH K S.HF F) Z k := by
 have hs := h.sim
 have hnl : C.nl = 0 := by unfold Cx.nl; rw [hl]
 have hm0 : C.ln.m = 0 := by rw [hl]
 generalize rho l = ρ at *
 unfold zbv at hn
 simp only [Bool.and_eq_true, List.all_eq_true, zbE, zcf] at hn
 obtain ⟨⟨⟨⟨⟨⟨n1, n2⟩, n3⟩, n4⟩, n5⟩, n7⟩, n6⟩ := hn
 have hH : ∀ i b, T.HF i = some b → ∃ b', S.HF (ρ i) = some b' ∧ CfB S.HF ρ G b' b := fun i b hb => zkO hh (zbU hb)
 have hlo : ∀ i b, T.HF i = some b → i < T.nx := fun i b hb => (n2 _ (zbU hb)).1
 have top : ∀ i, T.nx ≤ i → T.HF i = none := fun i hi => by
  cases hb : T.HF i with
  | none => rfl
  | some b => have := hlo i b hb; omega
 have eid : ∀ t, ∀ i ∈ (T.envF t).ids, i < T.nx := fun t i hi => by
  unfold St.envF at hi
  rcases zex (l := T.env) (t := t) with e | e
  ·rw [e] at hi; simp [AV.ids] at hi
  ·exact n1 _ e i hi
 have bid : ∀ i b, T.HF i = some b → ∀ j ∈ b.ids, j < T.nx := fun i b hb j hj => by
  have := (n2 _ (zbU hb)).2
  simp only [List.all_eq_true, zbE] at this
  exact this j hj
 generalize hZ : (fun i => if i < T.nx then Z (ρ i) else Z (K + (i - T.nx))) = Z2
 have z1 : ∀ i, i < T.nx → Z2 i = Z (ρ i) := fun i hi => by rw [← hZ]; exact if_pos hi
 have z2 : ∀ j, Z2 (T.nx + j) = Z (K + j) := fun j => by rw [← hZ]; simp only; rw [if_neg (by omega), Nat.add_sub_cancel_left]
 have hB : ∀ k, k < w.heap.size → Own C (famH T.nx T.HF F) Z2 k → Own C (famH K S.HF F) Z k := by
  rintro k _ (h0 | ⟨i, b, hi, hb⟩)
  ·exact .inl h0
  ·rcases zaZ hi with ⟨h1, h2⟩ | ⟨j, p, rfl, h2, h3⟩
   ·obtain ⟨b', h3, _⟩ := hH i b h2
    rw [z1 i h1] at hb
    exact .inr ⟨ρ i, b', (h.hf h3).2, hb⟩
   ·rw [z2] at hb
    exact .inr ⟨K + j, _, h.fm h2, hb⟩
 have hGG : ∀ j b, j ∈ G → S.HF j = some b → held Z (Own C (famH K S.HF F) Z) w j b ∧ ∀ x, blk (Z j) = some x → ¬ Own C (famH T.nx T.HF F) Z2 x := by
  intro j b hj hb
  refine ⟨(hs.holds j b (h.hf hb).2).1, fun x hx => ?_⟩
  obtain ⟨⟨g0, g1⟩, g2⟩ := n6 j hj
  rintro (h0 | ⟨i, c, hi, hc⟩)
  ·have := hs.m0 x h0
   rcases hs.fresh j b x (h.hf hb).2 hx with h3 | h3 | ⟨q, h3, _⟩
   ·omega
   ·omega
   ·omega
  ·rcases zaZ hi with ⟨h1, h2⟩ | ⟨q, p, rfl, h2, h3⟩
   ·obtain ⟨c', h3, _⟩ := hH i c h2
    have h4 := g2 _ (zbU h2)
    have h5 : ρ i ≠ j := fun e => by simp [e] at h4
    rw [z1 i h1] at hc
    exact hs.dist (ρ i) j c' b (h.hf h3).2 (h.hf hb).2 h5 x hc hx
   ·rw [z2] at hc
    exact hs.dist (K + q) j _ b (h.fm h2) (h.hf hb).2 (by have := h.le; have := (h.hf hb).1; omega) x hc hx
 refine ⟨Z2, ⟨Nat.le_refl _, top, eid, bid, fun j p hj => ⟨by rw [z2]; exact (h.fam j p hj).1, (h.fam j p hj).2⟩, hs.size, hs.defers, hs.frame, hs.m0, fun t => ?_, fun t i hi => .inl (eid t i hi), fun i b hb => ?_, fun i j b c hi hj hij x hx hx2 => ?_, fun i b x hi hx => ?_, hs.lm, fun i hi => by omega⟩, z1, hB⟩
 ·unfold St.envF
  rcases zex (l := T.env) (t := t) with e | e
  ·rw [e, AV.rep]; trivial
  ·exact Cf.rep hB hGG (zkI he e) (fun i hi => z1 i (eid t i hi)) _ (hs.slots t)
 ·rcases zaZ hb with ⟨h1, h2⟩ | ⟨j, p, rfl, h2, rfl⟩
  ·obtain ⟨b', h3, h4⟩ := hH i b h2
   exact ⟨h4.heldG (hs.holds _ b' (h.hf h3).2).1 (z1 i h1) (fun q hq => z1 q (bid i b h2 q hq)) hB hGG, .inl h1, fun q hq => .inl (bid i b h2 q hq)⟩
  ·obtain ⟨f1, f2⟩ := h.fam j p h2
   exact ⟨zaK (hs.holds _ _ (h.fm h2)).1 (z2 j) f2 hB, .inr ⟨by omega, by have := zbK h2; omega⟩, fun q hq => by rw [f2] at hq; cases hq⟩
 ·rcases zaZ hi with ⟨h1, h2⟩ | ⟨p, u, rfl, h2, rfl⟩ <;> rcases zaZ hj with ⟨h3, h4⟩ | ⟨q, v, rfl, h4, rfl⟩
  ·rw [z1 i h1] at hx; rw [z1 j h3] at hx2
   obtain ⟨b', g1, _⟩ := hH i b h2
   obtain ⟨c', g2, _⟩ := hH j c h4
   have := n5 _ (zbU h2) _ (zbU h4)
   rw [Bool.or_eq_true] at this
   rcases this with h3 | h3
   ·exact hij (Nat.eq_of_beq_eq_true h3)
   ·exact hs.dist (ρ i) (ρ j) b' c' (h.hf g1).2 (h.hf g2).2 (fun e => by simp [e] at h3) x hx hx2
  ·rw [z1 i h1] at hx; rw [z2] at hx2
   obtain ⟨b', g1, _⟩ := hH i b h2
   exact hs.dist (ρ i) (K + q) b' v.2 (h.hf g1).2 (h.fm h4) (by have := h.le; have := (h.hf g1).1; omega) x hx hx2
  ·rw [z2] at hx; rw [z1 j h3] at hx2
   obtain ⟨c', g1, _⟩ := hH j c h4
   exact hs.dist (K + p) (ρ j) u.2 c' (h.fm h2) (h.hf g1).2 (by have := h.le; have := (h.hf g1).1; omega) x hx hx2
  ·rw [z2] at hx hx2
   exact hs.dist (K + p) (K + q) u.2 v.2 (h.fm h2) (h.fm h4) (by omega) x hx hx2
 ·rcases zaZ hi with ⟨h1, h2⟩ | ⟨j, p, rfl, h2, rfl⟩
  ·rw [z1 i h1] at hx
   obtain ⟨b', g1, _⟩ := hH i b h2
   rcases hs.fresh (ρ i) b' x (h.hf g1).2 hx with g3 | g3 | ⟨j, g3, _⟩
   ·omega
   ·exact .inr (.inl g3)
   ·omega
  ·rw [z2] at hx
   rcases hs.fresh (K + j) p.2 x (h.fm h2) hx with g3 | g3 | ⟨j, g3, _⟩
   ·omega
   ·exact .inr (.inl g3)
   ·omega
theorem SimX.weaken (h : SimX C S F a w) (hl : C.ln = ⟨0, 0⟩) (T : St) (l : List (Nat × Nat)) (G : List Nat) (hn : zbv C.ln T (rho l) G = true) (he : eLe S (rho l) G T.env) (hh : hLe S (rho l) G T.H) : SimX C T F a w := by
 obtain ⟨Z, K, h⟩ := h
 obtain ⟨Z', h', _⟩ := h.weaken hl T l G hn he hh
 exact ⟨Z', _, h'⟩
end
end Go.Ab
