/- Words for byte slices that a call makes and appends to, and a region whose order is open where all operations yield fixed values. No conditions. -/
import Derived.Test.YtabgmodllifgjaaBase
import Derived.Test.YtabgmodllifgjaaRel
import Derived.Test.YtabgmodllifgjaaGB
import Derived.Maps.AppendAt
import Derived.OwnWalk
import Derived.BigQuiet
import Derived.Deep.RegionWith
import Derived.WalkSmall
import Derived.Lib.SlBytesConst
namespace Go.Proofs.Ytabgmodllifgjaa
open Go.RowKit
set_option maxRecDepth 100000
set_option linter.unusedVariables false

/-- The slice value v is made by the call (its row lies in a block from base on) and reads as the bytes l. -/
def Own (w : World) (base : Nat) (v : Value) (l : List UInt8) : Prop := w.ownsRow base 5 1 v l.length (bv l)

theorem bv_one (l : List UInt8) : ∀ u ∈ bv l, u.oneCell' = true := by
  intro u hu
  simp only [bv, List.mem_map] at hu
  obtain ⟨b, _, rfl⟩ := hu
  rfl

section
variable {w w' : World} {base : Nat} {v : Value} {l : List UInt8}
theorem Own.nil (w : World) (base : Nat) : Own w base (.slice none 0 0) [] := World.ownsRow_nil w base 5 1
theorem Own.form (h : Own w base v l) : ∃ A c, v = .slice A l.length c ∧ Rd w 1 A l.length (bv l) ∧ l.length ≤ c ∧ c ≤ maxLen := by
  have h' := h
  rcases h.2 with ⟨e, h0⟩ | ⟨g, cap, cur, e, h1, h2, h3, h4, h5, h6⟩
  · subst e
    have : l = [] := List.eq_nil_of_length_eq_zero h0
    subst this
    exact ⟨none, 0, rfl, Rd.nil, Nat.le_refl _, by unfold maxLen; omega⟩
  · subst e
    exact ⟨_, _, rfl, Rd.of_own h', h3, h4⟩
theorem Own.len (h : Own w base v l) : l.length ≤ maxLen := by
  obtain ⟨A, c, _, _, h1, h2⟩ := h.form
  omega
theorem Own.ownBlock (h : Own w base v l) : ∀ k, v.ownBlock = some k → base ≤ k ∧ k < w.heap.size := World.ownsRow.lt h
theorem Own.mono {base' : Nat} (h : Own w base v l) (hb : base' ≤ base) : Own w base' v l :=
  ⟨h.1, h.2.imp id (fun ⟨g, cap, cur, e, h1, r⟩ => ⟨g, cap, cur, e, by omega, r⟩)⟩
/-- Kept while nothing of what there is turns. -/
theorem Own.below (h : Own w base v l) (hb : Below w.heap.size w w') : Own w' base v l :=
  World.ownsRow.kept h (row := none) ⟨hb.os, hb.tape, hb.output, hb.size, fun k hk _ => hb.block k hk⟩ (by
    rcases e : v.ownBlock with _ | g
    · exact .inl rfl
    · exact .inr (by simp))
theorem Own.grown {row : Option Nat} (h : Own w base v l) (hg : w.grownBy w' row) (hne : v.ownBlock = none ∨ v.ownBlock ≠ row) : Own w' base v l :=
  World.ownsRow.kept h hg hne
theorem Own.drew (h : Own w base v l) : Own w.drew base v l := h
theorem Own.alloc (h : Own w base v l) (o : Obj) : Own (w.alloc o) base v l := World.ownsRow.alloc h o
end

@[go_sem] theorem eql_nil_bytes (w : World) (A : Option Addr) (l c : Nat) : (binOp .eql 27 (.slice A l c) (.slice none 0 0)).run Try.prog w = .ok (.bool A.isNone) w := by
  have h : ∀ d : Nat, (Op.equalIn (d + 1) 27 (.slice A l c) (.slice none 0 0)).run Try.prog w = .ok A.isNone w := fun d => by
    cases A <;> simp [Op.equalIn, run_underlying Try.underlying27]
  simp only [binOp]
  simp [Op.equal, Op.maxDepth, h 9999]
@[go_sem] theorem conv_bytes_bytes (w : World) (C : Array Value) (n c : Nat) : (convert 27 27 (.slice (some ⟨w.heap.size, 0, none⟩) n c)).run Try.prog (w.alloc (.cells C 5)) = .ok (.slice (some ⟨w.heap.size, 0, none⟩) n c) (w.alloc (.cells C 5 (C.size, C.size + 1))) :=
  Lib.run_convert_bytes_const (P := Try.prog) w 27 5 C n c Try.underlying27 Try.underlying5
theorem info_u8 : (Try.prog.info? 5).map (fun i => (i.zero, i.size, i.bytes)) = some (some (.int .u8 0), 1, 1) := by kernel_rfl

/-- An empty row just made. -/
theorem Own.empty (w : World) : Own (w.alloc (.cells #[] 5)) w.heap.size (.slice (some ⟨w.heap.size, 0, none⟩) 0 0) [] :=
  ⟨by simp [bv], .inr ⟨w.heap.size, 0, #[], rfl, Nat.le_refl _, heap_alloc_new _ _, Nat.le_refl _, by unfold maxLen; omega, rfl, rfl⟩⟩

theorem run_append_rd (w : World) (base : Nat) (v : Value) (l : List UInt8) (hown : Own w base v l)
    (A : Option Addr) (c : Nat) (news : List UInt8) (hr : Rd w 1 A news.length (bv news)) (hlen : l.length + news.length ≤ 211106232532992) (hbase : base ≤ w.heap.size) (ty : TypeId) :
    ∃ v' w', (Builtin.append_ #[27, 27] ty #[v, .slice A news.length c]).run Try.prog w = .ok v' w' ∧ Own w' base v' (l ++ news) ∧ w.grownBy w' v.ownBlock ∧ (v'.ownBlock = v.ownBlock ∨ v'.ownBlock = some w.heap.size) := by
  obtain ⟨i, hi, hz, hs, hby⟩ := info_parts info_u8
  have ht := Try.underlying27
  have key : ∀ (ad : Addr) (news : List UInt8), (∀ j u, (bv news)[j]? = some u → w.cell? (ad.add j) = some u) → l.length + news.length ≤ 211106232532992 →
      ∃ v' w', (Builtin.append_ #[27, 27] ty #[v, .slice (some ad) news.length c]).run Try.prog w = .ok v' w' ∧ Own w' base v' (l ++ news) ∧ w.grownBy w' v.ownBlock ∧ (v'.ownBlock = v.ownBlock ∨ v'.ownBlock = some w.heap.size) := by
    intro ad news hc hlen
    obtain ⟨v', w', h1, h2, h3, _, h5⟩ := Go.Ab.run_append_wide_at (P := Try.prog) w base 27 ty 5 i _ 1 1 ht hi hz hs hby rfl (by omega) v l.length (bv l) hown ad news.length c (bv news) (by rw [bv_len]; omega) hc (bv_one _) (by unfold maxLen; omega) (by omega) hbase
    refine ⟨v', w', h1, ?_, h3, h5⟩
    unfold Own
    rw [List.length_append, bv_append]
    exact h2
  rcases A with _ | ad
  · have h0 : news = [] := by
      rcases Nat.eq_zero_or_pos news.length with h0 | h0
      · exact List.eq_nil_of_length_eq_zero h0
      · obtain ⟨ad, e, _⟩ := hr.2 h0; cases e
    subst h0
    refine ⟨v, w, ?_, by simpa using hown, World.grownBy.refl w _, .inl rfl⟩
    rcases hown.2 with ⟨rfl, _⟩ | ⟨g, cap, cur, rfl, _, _, hnc, _⟩
    · simp [Builtin.append_, run_underlying ht, sizeOf, typeInfo, hi, Builtin.lenOf, Builtin.firstCells]
    · simp [Builtin.append_, run_underlying ht, sizeOf, typeInfo, hi, Builtin.lenOf, Builtin.firstCells, hnc, storeCells]
  · refine key ad news (fun j u hu => ?_) hlen
    have hj : 0 < news.length := by
      rcases Nat.eq_zero_or_pos news.length with h0 | h0
      · rw [List.eq_nil_of_length_eq_zero h0] at hu; simp [bv] at hu
      · exact h0
    obtain ⟨ad', e, hc⟩ := hr.2 hj
    injection e with e
    subst e
    exact hc j u hu

theorem wpList_append_rd {w : World} {ops : Array Oper} {rest : List Oper} {o : Oper} {a : Act} {Q : Exit → Act → World → Prop} (hgd : o.guard = none) (s x : Operand)
    (ho : o.op = .call { callee := .builtin .append, args := #[s, x], argTypes := #[27, 27] })
    (base : Nat) (v : Value) (l : List UInt8) (hs : a.eval s = v) (hown : Own w base v l)
    (A : Option Addr) (m c : Nat) (news : List UInt8) (hx : a.eval x = .slice A m c) (hr : Rd w 1 A m (bv news)) (hlen : l.length + m ≤ 211106232532992) (hbase : base ≤ w.heap.size)
    (h : ∀ v' w', Own w' base v' (l ++ news) → w.grownBy w' v.ownBlock → (v'.ownBlock = v.ownBlock ∨ v'.ownBlock = some w.heap.size) → wpList Try.prog ops Q rest (a.put o.dst v') w') : wpList Try.prog ops Q (o :: rest) a w := by
  have hm : m = news.length := hr.len
  subst hm
  refine wpList_plain hgd fun K hK => ?_
  obtain ⟨v', w', h1, h2, h3, h4⟩ := run_append_rd w base v l hown A c news hr hlen hbase o.type
  unfold Oper.wp execOp
  simp only [ho, resolve, invoke, builtin, Sem.run_bind, Sem.run_pure, Result.andThen_ok, List.map_toArray, List.map_cons, List.map_nil, hs, hx, h1]
  exact hK _ _ (h v' w' h2 h3 h4)

/-- The one cell that 'append(s, x)' lays first. -/
theorem Rd.one (w : World) (x : Int) (h0 : 0 ≤ x) (h1 : x < 256) : Rd (w.alloc (.cells #[.int .u8 x] 5)) 1 (some ⟨w.heap.size, 0, none⟩) 1 (bv [UInt8.ofNat x.toNat]) := by
  refine ⟨by simp [bv], fun _ => ⟨_, rfl, fun j u hu => ?_⟩⟩
  have : ((UInt8.ofNat x.toNat).toNat : Int) = x := by simp; omega
  rw [bv, List.map_cons, List.map_nil, this] at hu
  exact cell_one_new w _ 5 j u hu

/-- What is left behind an append onto an own row is again below what was there. -/
theorem below_grown {B : Nat} {a w w' : World} {v : Value} {base : Nat} {l : List UInt8} (hb : Below B a w) (hown : Own w base v l) (hg : w.grownBy w' v.ownBlock) (hB : B ≤ base) (hs : B ≤ w.heap.size) : Below B a w' :=
  hb.grown hg hs (fun k hk => by have := (hown.ownBlock k hk).1; omega)

/-- A step that may write the row r, which is the row or new. -/
theorem grown_step {w wr w1 : World} {row r : Option Nat} (hg : w.grownBy wr row) (h1 : wr.grownBy w1 r) (hr : r = row ∨ ∃ g, r = some g ∧ w.heap.size ≤ g) : w.grownBy w1 row :=
  ⟨h1.os.trans hg.os, h1.tape.trans hg.tape, h1.output.trans hg.output, Nat.le_trans hg.size h1.size, fun k hk hne => by
    have hs := hg.size
    refine (h1.block k (by omega) ?_).trans (hg.block k hk hne)
    rcases hr with rfl | ⟨g, rfl, hge⟩
    · exact hne
    · intro e; injection e with e; omega⟩
theorem grown_alloc {w wr : World} {row : Option Nat} (hg : w.grownBy wr row) (o : Obj) : w.grownBy (wr.alloc o) row := hg.trans (World.grownBy_alloc wr o row)
theorem grown_drew {w wr : World} {row : Option Nat} (hg : w.grownBy wr row) : w.grownBy wr.drew row := ⟨hg.os, hg.tape, hg.output, hg.size, hg.block⟩
theorem grown_below {w wr w1 : World} {row : Option Nat} (hg : w.grownBy wr row) (hb : Below wr.heap.size wr w1) : w.grownBy w1 row :=
  ⟨hb.os.trans hg.os, hb.tape.trans hg.tape, hb.output.trans hg.output, Nat.le_trans hg.size hb.size, fun k hk hne => (hb.block k (Nat.lt_of_lt_of_le hk hg.size)).trans (hg.block k hk hne)⟩
theorem below_of_grown {w w' : World} (hg : w.grownBy w' none) : Below w.heap.size w w' := ⟨hg.os, hg.tape, hg.output, hg.size, fun k hk => hg.block k hk (by simp)⟩
theorem own_step {a b c : Option Nat} {n m : Nat} (h : b = a ∨ ∃ g, b = some g ∧ n ≤ g) (h1 : c = b ∨ c = some m) (hm : n ≤ m) : c = a ∨ ∃ g, c = some g ∧ n ≤ g := by
  rcases h1 with rfl | rfl
  · exact h
  · exact .inr ⟨m, rfl, hm⟩

/-- The posts: a result that is a new slice; one that may lie in the row of the slice b that was handed over. -/
def Fresh (w : World) (l : List UInt8) (e : Ending) (w' : World) : Prop := ∃ r, e = .returned r ∧ Own w' w.heap.size r l ∧ Below w.heap.size w w'
def Onto (w : World) (base : Nat) (b : Value) (l : List UInt8) (e : Ending) (w' : World) : Prop :=
  ∃ r, e = .returned r ∧ Own w' base r l ∧ w.grownBy w' b.ownBlock ∧ (r.ownBlock = b.ownBlock ∨ ∃ k, r.ownBlock = some k ∧ w.heap.size ≤ k)

/-- The n least significant bytes of v, the least significant one first. -/
def leb (v k : Nat) : UInt8 := UInt8.ofNat (v / 2 ^ (8 * k))
def le (v n : Nat) : List UInt8 := (List.range n).map (leb v)
theorem le_succ (v n : Nat) : le v (n + 1) = le v n ++ [leb v n] := by simp [le, List.range_succ]
theorem leb_of (v k : Nat) : UInt8.ofNat ((v : Int) / 2 ^ (8 * k) % 256).toNat = leb v k := by
  have h : ((v : Int) / 2 ^ (8 * k) % 256).toNat = v / 2 ^ (8 * k) % 256 := by
    have e : ((v : Int) / 2 ^ (8 * k) % 256) = ((v / 2 ^ (8 * k) % 256 : Nat) : Int) := by push_cast; rfl
    rw [e, Int.toNat_natCast]
  rw [h, leb]
  apply UInt8.toNat_inj.1
  simp
theorem le_length (v n : Nat) : (le v n).length = n := by simp [le]

/-- A slice value that reads as the bytes l. -/
def IsRd (l : List UInt8) (v : Value) (w : World) : Prop := ∃ A c, v = .slice A l.length c ∧ l.length ≤ c ∧ Rd w 1 A l.length (bv l)
theorem IsRd.stable (l : List UInt8) : Stable (fun _ => False) (IsRd l) := fun v w w' ⟨A, c, e, hc, h⟩ hb => ⟨A, c, e, hc, h.below hb.to_below⟩
/-- .. and lies in no block of M. -/
def IsRdM (M : Nat → Prop) (l : List UInt8) (v : Value) (w : World) : Prop := ∃ A c, v = .slice A l.length c ∧ l.length ≤ c ∧ Rd w 1 A l.length (bv l) ∧ ∀ ad, A = some ad → ¬ M ad.block
theorem Rd.upto {M : Nat → Prop} {w w' : World} {size n : Nat} {A : Option Addr} {vs : List Value} (h : Rd w size A n vs) (hu : Upto M w w') (hA : 0 < n → ∀ ad, A = some ad → ¬ M ad.block) : Rd w' size A n vs :=
  ⟨h.1, fun hn => by
    obtain ⟨ad, e, hc⟩ := h.2 hn
    exact ⟨ad, e, fun j u hv => hu.cell (hc j u hv) (by rw [add_block]; exact hA hn ad e)⟩⟩
theorem IsRdM.stable (M : Nat → Prop) (l : List UInt8) : Stable M (IsRdM M l) := fun v w w' ⟨A, c, e, hc, h, hA⟩ hb => ⟨A, c, e, hc, h.upto hb (fun _ => hA), hA⟩
theorem IsRdM.rd {M : Nat → Prop} {l : List UInt8} {A : Option Addr} {n c : Nat} {w : World} (h : IsRdM M l (.slice A n c) w) : Rd w 1 A n (bv l) ∧ n ≤ c ∧ n = l.length := by
  obtain ⟨A', c', e, hc, hr, _⟩ := h
  injection e with e1 e2 e3
  subst e1 e2 e3
  exact ⟨hr, hc, rfl⟩
theorem Own.upto {M : Nat → Prop} {w w' : World} {base : Nat} {v : Value} {l : List UInt8} (h : Own w base v l) (hu : Upto M w w') (hM : ∀ g, v.ownBlock = some g → ¬ M g) : Own w' base v l := by
  refine ⟨h.1, ?_⟩
  rcases h.2 with h1 | ⟨g, cap, cur, e, h1, h2, h3⟩
  · exact .inl h1
  · have hg : g < w.heap.size := by
      rcases Nat.lt_or_ge g w.heap.size with h' | h'
      · exact h'
      · rw [Array.getElem?_eq_none h'] at h2; cases h2
    exact .inr ⟨g, cap, cur, e, h1, (hu.block g hg (hM g (by rw [e]; rfl))).trans h2, h3⟩
theorem IsRd.rd {l : List UInt8} {A : Option Addr} {n c : Nat} {w : World} (h : IsRd l (.slice A n c) w) : Rd w 1 A n (bv l) ∧ n ≤ c ∧ n = l.length := by
  obtain ⟨A', c', e, hc, hr⟩ := h
  injection e with e1 e2 e3
  subst e1 e2 e3
  exact ⟨hr, hc, rfl⟩
theorem IsRd.of_own {w : World} {base : Nat} {v : Value} {l : List UInt8} (h : Own w base v l) : IsRd l v w := by
  obtain ⟨A, c, e, hr, hc, _⟩ := h.form
  exact ⟨A, c, e, hc, hr⟩

/-! ## Regions whose order is open: one walk in the order of the text, where each operation yields one value in every world below. -/
theorem wp_region_calm {id : Nat} {Q : Exit → Act → World → Prop} {a : Act} {w : World} {l : List Oper} (B : Nat) (hB : Region.lexB .any l.toArray = true)
    (h : wpQuiet Try.prog l.toArray (fun w' => ∃ d : Bel B w, w' = d.1) (fun a' => ∀ w', Below B w w' → Q .normal a' w') l a) : (Code.region id l.toArray true).wp Try.prog Q a w := by
  refine wp_region_quiet (C := fun w' => ∃ d : Bel B w, w' = d.1) (by kernel_rfl) hB ⟨⟨w.drew, (Below.refl _ _).drew⟩, rfl⟩ ?_
  have e : (fun a' => ∀ w', Below B w w' → Q .normal a' w') = (fun a' => ∀ w', (∃ d : Bel B w, w' = d.1) → Q .normal a' w') := by
    funext a'
    apply propext
    constructor
    · rintro h w' ⟨d, rfl⟩; exact h _ d.2
    · intro h w' hw; exact h w' ⟨⟨w', hw⟩, rfl⟩
  rw [e] at h
  simpa using h
theorem Calls.calm {f : FuncId} {args : Array Value} {B : Nat} {w : World} {d : Bel B w} {v : Value} (h : Calls Try.prog f args d.1 fun e w' => e = .returned v ∧ Below d.1.heap.size d.1 w') (hB : B ≤ w.heap.size) :
    Calls Try.prog f args d.1 fun e w'' => e = .returned v ∧ ∃ d' : Bel B w, w'' = d'.1 :=
  h.mono fun _ w' ⟨he, hb⟩ => ⟨he, ⟨w', d.2.trans (hb.mono (Nat.le_trans hB d.2.size))⟩, rfl⟩
theorem Calls.calm0 {f : FuncId} {args : Array Value} {B : Nat} {w : World} {d : Bel B w} {v : Value} (h : Calls Try.prog f args d.1 fun e w' => e = .returned v ∧ d.1 = w') :
    Calls Try.prog f args d.1 fun e w'' => e = .returned v ∧ ∃ d' : Bel B w, w'' = d'.1 :=
  h.mono fun _ w' ⟨he, hb⟩ => ⟨he, d, hb.symm⟩
theorem Bel.rd {w : World} (d : Bel w.heap.size w) {size n : Nat} {A : Option Addr} {vs : List Value} (h : Rd w size A n vs) : Rd d.1 size A n vs := h.below d.2

end Go.Proofs.Ytabgmodllifgjaa
