/- Texts of the second layer in one: Ac1 Pi5. -/
import Derived.Test.YtibedaeefnjjlaaGreatG42
import Derived.Test.YtibedaeefnjjlaaGreatG40
import Derived.Test.YtibedaeefnjjlaaGreatG30
import Derived.Test.YtibedaeefnjjlaaGreatG39
set_option maxHeartbeats 16000000
set_option maxRecDepth 100000
set_option linter.unusedVariables false
set_option linter.unusedSimpArgs false
namespace Go.Ab
open Go.RowKit
theorem zan.freezeP {P : Program} {f : FuncId} {args : List AV} {b b' : Blk} {T sz : Nat} {es : List (List RV)} (hid : b'.ids = []) (h : zan P f args [b] (.fr T sz es) [some b']) : zan P f args [b] (.r (.sl sz es)) [some b'] := by
 intro w Z M k us hM hk hargs hpre hd
 refine (h w Z M k us hM hk hargs hpre hd).mono fun e w' ⟨v, he, Z', A⟩ => ⟨v, he, Z, fun _ _ => rfl, ?_, ?_, fun j b h => by simp [zaJ, AV.unfr] at h, fun j j' x h => by simp [zaJ, AV.unfr] at h, fun j x h => by simp [zaJ, AV.unfr] at h, A.upto⟩
 ·have h1 := A.out
  have h2 := A.fr 0 (.row T sz es) (by simp [zaJ, AV.unfr])
  have h3 := A.fresh 0
  simp only [zaJ, AV.unfr, AV.rep, Nat.add_zero] at h1 h2 h3 ⊢
  rw [h1]
  refine zfW h2 (fun q _ hq => hq.imp (fun h => h) (fun ⟨j, hj, _⟩ => by simp at hj)) fun x hx hn => ?_
  have h4 := h3 x (by simp) hx
  rcases hn with h0 | ⟨j, hj, _⟩
  ·rcases h4 with h4 | ⟨i, hi, _⟩
   ·have := hM x h0; omega
   ·simp [zbu] at hi
  ·simp at hj
 ·intro i c hc
  have h5 : i = 0 ∧ c = b' := by simpa [zaJ, zbu] using hc
  obtain ⟨rfl, rfl⟩ := h5
  have h6 := A.up 0 c (by simp [zaJ, zbu])
  have hz := A.z 0 (.inl (by simp at hk; omega))
  exact zaK h6 hz.symm hid (fun q _ hq => hq.imp (fun h => h) (fun ⟨j, hj, _⟩ => by simp [zaJ, AV.unfr] at hj))
end Go.Ab
namespace Go.Proofs.YtibedaeefnjjlaaGreat
open Go.RowKit Go.Ab Go.Wd
def tolv (l : List Int) (k : Nat) : Int × Nat :=
 if nx l k 8 = 0 then (0, adv l k)
 else if nx l k 8 = 1 then (4611686018427387904 - nx l (adv l k) 2, adv l (adv l k))
 else if nx l k 8 = 2 then (IntKind.i64.wrap ((wds l (adv l k) 4).1.fdiv (2 ^ min (2 + nx l (wds l (adv l k) 4).2 60).toNat (IntKind.bits .u64))), adv l (wds l (adv l k) 4).2)
 else (nx l (adv l k) 30, adv l (adv l k))
theorem zpd (l : List Int) (k : Nat) (hl : Ints l) (hn : l.length ≤ 140737488351232) : zan Tryz.prog 11 [.pt 0 0] [tb l k] (.r (.v (.int .i64 (tolv l k).1))) [some (tb l (tolv l k).2)] := by
 refine zap Tryz.func11 rfl (Nat.le_of_ble_eq_true rfl) rfl rfl ?_
 have h8 := zau l k (show (1 : Int) ≤ 8 by omega)
 have h2 := zau l (adv l k) (show (1 : Int) ≤ 2 by omega)
 have h30 := zau l (adv l k) (show (1 : Int) ≤ 30 by omega)
 have h60 := zau l (wds l (adv l k) 4).2 (show (1 : Int) ≤ 60 by omega)
 (repeat' (first | refine zai ?_ | (refine is_f 12 ?_; refine zbd (za3 l k 8 hl hn (by omega)) ?_) | (refine is_f 12 ?_; refine zbd (za3 l (adv l k) 2 hl hn (by omega)) ?_) | (refine is_f 12 ?_; refine zbd (za3 l (adv l k) 30 hl hn (by omega)) ?_) | (refine is_f 12 ?_; refine zbd (za3 l (wds l (adv l k) 4).2 60 hl hn (by omega)) ?_) | (refine is_f 29 ?_; refine zbd (ziD l (adv l k) hl hn) ?_) | (refine zac (fun hb => ?_) (fun hb => ?_) <;> (try (exfalso; omega))) | fail))
 all_goals (unfold tolv; (repeat' split) <;> (try (exfalso; omega)) <;> exact zdl [] (.int rfl) rfl rfl (zbN rfl rfl) rfl)
theorem zpw (l : List Int) (k : Nat) : ∀ j, 0 ≤ (wds l k j).1 ∧ (wds l k j).1 < 18446744073709551616
 | 0 => by unfold wds; exact ⟨Int.le_refl _, by show (0 : Int) < _; decide⟩
 | j + 1 => by
  unfold wds
  simp only [IntKind.wrap_u64]
  omega
theorem znb (l : List Int) (k : Nat) : 0 ≤ (tolv l k).1 ∧ (tolv l k).1 ≤ 4611686018427387904 := by
 have h2 := zau l (adv l k) (show (1 : Int) ≤ 2 by omega)
 have h30 := zau l (adv l k) (show (1 : Int) ≤ 30 by omega)
 have h60 := zau l (wds l (adv l k) 4).2 (show (1 : Int) ≤ 60 by omega)
 have hw := zpw l (adv l k) 4
 unfold tolv
 (repeat' split)
 ·simp only; omega
 ·simp only; omega
 ·simp only
  generalize (wds l (adv l k) 4).1 = x at *
  generalize nx l (wds l (adv l k) 4).2 60 = s at *
  obtain ⟨y, rfl⟩ := Int.eq_ofNat_of_zero_le hw.1
  obtain ⟨e, he⟩ : ∃ e : Nat, min (2 + s).toNat (IntKind.bits .u64) = 2 + e := ⟨s.toNat, by simp [IntKind.bits]; omega⟩
  rw [he]
  have h1 : (y : Int).fdiv (2 ^ (2 + e)) = ((y / 2 ^ (2 + e) : Nat) : Int) := by
   rw [Int.fdiv_eq_ediv_of_nonneg _ (Int.pow_nonneg (by omega))]
   push_cast
   rfl
  have h3 : y / 2 ^ (2 + e) ≤ y / 4 := by
   rw [Nat.pow_add, ← Nat.div_div_eq_div_mul]
   exact Nat.div_le_self _ _
  rw [h1]
  generalize y / 2 ^ (2 + e) = d at *
  rw [IntWalk.i64_in _ (by omega)]
  omega
 ·simp only; omega
theorem ztC (t : List Int) (k : Nat) (ht : Ints t) (htn : t.length ≤ 140737488351232) : zan Tryz.prog 8 [.pt 0 0] [tb t k] (.r (.sl 24 (pcs (smL t k).1))) [some (tb t (smL t k).2)] :=
 zan.freezeP rfl (ztB t k ht htn)
def thC (x : Ps) (tm v : Int) : Cn := ⟨false, (mkQ (v - x.ky * zcx x.tol - x.tol) (tm - x.fT).toNat).1, (mkQ (v - x.ky * zcx x.tol - x.tol) (tm - x.fT).toNat).2, (mkQ (v - x.ky * zcx x.tol + x.tol) (tm - x.fT).toNat).1, (mkQ (v - x.ky * zcx x.tol + x.tol) (tm - x.fT).toNat).2⟩
theorem zlw (fV tol : Int) (hv : I64 fV) (ht : 0 ≤ tol ∧ tol ≤ 4611686018427387904) : (keyE fV tol * zcx tol).natAbs < 18446744073709551616 ∧ I64 (keyE fV tol) := by
 have h := zpR fV (zcx tol) (zhO tol)
 have hu : zcx tol ≤ 4611686018427387904 := by unfold zcx; split <;> omega
 have h2 := (zjQ fV (zcx tol) (zhO tol) hv).1
 refine ⟨?_, h2⟩
 unfold keyE
 unfold I64 at hv
 generalize fV / zcx tol * zcx tol = z at *
 omega
theorem zte (m e : Int) (d : Nat) (hd : 0 < d) (hd2 : d < B64) (hm : m.natAbs + e.natAbs < N127) (he : 0 ≤ e) : VC (mkQ (m - e) d).1 (mkQ (m - e) d).2 (mkQ (m + e) d).1 (mkQ (m + e) d).2 :=
 ⟨zlZ _ d hd (by omega) (zdS hd2), zlZ _ d hd (by omega) (zdS hd2), zqT _ _ d hd (by omega)⟩
theorem zq3 (x : Ps) (tm v : Int) (h : x.tolOk) (hf : I64 x.fV) (hk : x.ky = keyE x.fV x.tol) (hv : I64 v) (ht : I64 tm) (hfT : I64 x.fT) (hlt : x.fT < tm) : (thC x tm v).ok := by
 obtain ⟨b1, b2⟩ := zlw x.fV x.tol hf ⟨h.1, h.2.1⟩
 rw [← hk] at b1
 have h1 := h.1
 have h2 := h.2.1
 unfold I64 at *
 refine .inr ⟨rfl, zte _ _ _ (by omega) (by unfold B64; omega) (by unfold N127; omega) h1⟩
theorem Rt.psV {H : Nat → Option Blk} {L : Nat} {G : List Nat} (t i ct a b la ky : Int) (o : Bool) (p q r s : Int) : Rt H L G (.ag (vsA (Go.Proofs.YtibedaeefnjjlaaGreat.psV t i ct a b la ky o p q r s))) (.ag (vsA (Go.Proofs.YtibedaeefnjjlaaGreat.psV t i ct a b la ky o p q r s))) [] := .ag _ _ _ (Rt.agR ((Go.Proofs.YtibedaeefnjjlaaGreat.psV t i ct a b la ky o p q r s).map RV.v))
section
variable (x : Ps) (tm v : Int)
theorem zoC (h : x.ok0) (hv : I64 v) (hix : x.ix < 1073741824) : zan Tryz.prog 25 [stA x, .ag [.r (.v (.int .i64 tm)), .r (.v (.int .i64 v))]] [] (.tu [stA (zcu x tm v), .r (.v (.slice none 0 0)), .r (.v (.int .i64 0))]) [] := by
 have cV := zim x h
 have h1 := h.2.1
 have h3 := h.1.2.2.1
 have cB := zj7 x tm v hv ⟨h3, by omega, by omega⟩
 generalize zcu x tm v = y at *
 obtain ⟨t, i, ct, fT, fV, la, ky, c⟩ := x
 obtain ⟨t', i', ct', fT', fV', la', ky', c'⟩ := y
 unfold stA psVs at *
 dsimp only at *
 subst h1
 clear h
 have ha : IntKind.i64.wrap (i + 0) = i := by rw [IntKind.wrap_i64]; omega
 refine zap Tryz.func25 rfl (Nat.le_of_ble_eq_true rfl) rfl rfl ?_
 (repeat' (first | refine zai ?_ | (refine is_f 54 ?_; refine zah (cV) ?_) | (refine is_f 55 ?_; refine zah (cB) ?_) | (refine zac (fun hb => ?_) (fun hb => ?_) <;> (try (exfalso; omega))) | fail))
 all_goals (first | (exfalso; omega) | skip)
 all_goals exact zsr [] (Rt.psV _ _ _ _ _ _ _ _ _ _ _ _) (.r _) (.int rfl) rfl rfl rfl rfl rfl rfl (zak rfl) rfl
theorem zj9 (h : x.ok1 ∨ x.ok2) (hv : I64 v) (ht : I64 tm) (hf : I64 x.fT) (hlt : x.fT < tm) :
  zan Tryz.prog 57 [.r (.v (.int .i64 x.ky)), .r (.v (.int .i64 x.tol))] [] (wz (x.ky * zcx x.tol)) [] ∧
  zan Tryz.prog 58 [.r (.v (.int .i64 tm)), .r (.v (.int .i64 x.fT))] [] (.r (.v (.int .u64 ((tm - x.fT).toNat : Int)))) [] ∧
  zan Tryz.prog 56 [wz (x.ky * zcx x.tol), .r (.v (.int .i64 v)), .r (.v (.int .i64 x.tol)), .r (.v (.int .u64 ((tm - x.fT).toNat : Int)))] [] (.tu [(thC x tm v).A, .r (.v (.bool true))]) [] ∧ (thC x tm v).ok ∧ x.c.ok := by
 have hT : x.tolOk := h.elim (fun h => h.1) (fun h => h.1)
 have hfV : I64 x.fV := h.elim (fun h => h.2.2.1) (fun h => h.2.2.2.1)
 have hk : x.ky = keyE x.fV x.tol := h.elim (fun h => h.2.2.2.1) (fun h => h.2.2.2.2.1)
 obtain ⟨b1, b2⟩ := zlw x.fV x.tol hfV ⟨hT.1, hT.2.1⟩
 rw [← hk] at b1 b2
 have h1 := hT.1
 have h2 := hT.2.1
 have hI : I64 x.tol := by unfold I64; omega
 refine ⟨zsO _ _ b2 hI, ?_, ?_, zq3 x tm v hT hfV hk hv ht hf hlt, ?_⟩
 ·have := zoU tm x.fT ht hf
  rwa [show dst tm x.fT = ((tm - x.fT).toNat : Int) by unfold dst; rw [if_neg (by omega)]; omega] at this
 ·unfold I64 at ht hf
  exact zlj _ v x.tol (tm - x.fT).toNat (by omega) hv ⟨h1, h2⟩ (by omega) (by unfold B64; omega)
 ·rcases h with h | h
  ·rw [h.2.2.2.2.2]; exact .inl ⟨rfl, rfl, rfl, rfl, rfl⟩
  ·exact .inr ⟨h.2.2.2.2.2.2.1, h.2.2.2.2.2.2.2⟩
def zps : List AV := vsA (([.int .i64 0, .int .i64 0, .int .i64 0, .int .i64 0, .int .i64 0, .int .i64 0, .int .i64 0, .bool false, .bool false, .int .u64 0, .int .u64 0, .int .u64 0, .int .u64 0, .bool false, .int .u64 0, .int .u64 0, .int .u64 0, .int .u64 0, .bool false, .int .u64 0, .int .u64 0, .int .u64 0, .int .u64 0, .bool false, .int .u64 0, .int .u64 0, .int .u64 0, .int .u64 0] : List Value))
def p4S (t i ct fT fV la ky : Int) (o : Bool) (p q r s : Int) (tm v : Int) (o2 : Bool) (p2 q2 r2 s2 : Int) : St := ⟨[(2, .pt 0 0), (3, .pt 1 0), (4, .pt 2 0), (7, .pt 3 0)], [(0, some (.var 67 (vsA (psV t i ct fT fV la ky o p q r s)))), (1, some (.var 65 [.r (.v (.int .i64 tm)), .r (.v (.int .i64 v))])), (2, some (.var 67 zps)), (3, some (.var 40 (vsA (cnVs o2 p2 q2 r2 s2))))], 4⟩
theorem zoE (h : x.ok1 ∨ x.ok2) (hv : I64 v) (ht : I64 tm) (hf : I64 x.fT) (hlt : x.last < tm) (hlf : x.fT ≤ x.last) (hix : x.ix + x.ct < 1073741824) (hm : zco x.c (thC x tm v) = none) : zan Tryz.prog 25 [stA x, .ag [.r (.v (.int .i64 tm)), .r (.v (.int .i64 v))]] [] (.tu [stA (zcu x tm v), .fr 42 24 (pcs [x.pc]), .r (.v (.int .i64 0))]) [] := by
 obtain ⟨c1, c2, c3, k1, k2⟩ := zj9 x tm v h hv ht hf (by omega)
 have cV := zhs x h
 have cM := zis k2 k1 hm
 have cF := zil x h
 have hct : 0 < x.ct := h.elim (fun h => by have := h.2.1; omega) (fun h => by have := h.2.1; omega)
 have h0 : 0 ≤ x.ix := h.elim (fun h => h.1.2.2.1) (fun h => h.1.2.2.1)
 have cB := zj7 x tm v hv ⟨h0, by omega, by omega⟩
 generalize (tm - x.fT).toNat = dt at *
 generalize x.ky * zcx x.tol = bs at *
 clear hm k1 k2 h
 generalize thC x tm v = th at *
 generalize zcu x tm v = y at *
 generalize hpc : pcs [x.pc] = pl at *
 clear hpc
 have ha : IntKind.i64.wrap (x.ix + x.ct) = x.ix + x.ct := by rw [IntKind.wrap_i64]; omega
 obtain ⟨t, i, ct, fT, fV, la, ky, ⟨o, p, q, r, s⟩⟩ := x
 obtain ⟨t', i', ct', fT', fV', la', ky', ⟨o', p', q', r', s'⟩⟩ := y
 obtain ⟨o2, p2, q2, r2, s2⟩ := th
 unfold stA psVs Cn.A at *
 dsimp only at *
 refine zap Tryz.func25 rfl (Nat.le_of_ble_eq_true rfl) rfl rfl ?_
 (repeat' (first | (first | refine zaH 10 ?_ | refine zaz 10 ?_) | refine za6 ?_ | refine zaG ?_ | (refine is_f 54 ?_; refine zah (cV) ?_) | (refine is_f 57 ?_; refine zah (c1) ?_) | (refine is_f 58 ?_; refine zah (c2) ?_) | (refine is_f 56 ?_; refine zah (c3) ?_) | (refine zac (fun hb => ?_) (fun hb => ?_) <;> (try (exfalso; omega))) | fail))
 all_goals (first | (exfalso; omega) | skip)
 refine halt ?_
 refine zbp (T := p4S t i ct fT fV la ky o p q r s tm v o2 p2 q2 r2 s2) (by
  unfold p4S
  refine Le.mk [(0, 0), (1, 1), (2, 2), (3, 3)] [] rfl (by (repeat' (first | exact zaX | refine zbQ ?_ | refine le_r ?_ rfl rfl | refine za9 ?_ (by omega) rfl | refine zbR ?_ rfl rfl | refine zbS ?_ rfl rfl | refine zbH ?_ rfl zaN rfl rfl | refine zbX ?_ rfl rfl | refine zbW ?_ rfl rfl | refine zbZ ?_ ?_ rfl | refine zb0 ?_ ?_ rfl | refine za4 ?_ rfl | refine zbt ?_ rfl | refine zbi ?_ rfl | exact CfL.nil))) ?_ (fun g h => nomatch h)
  exact ⟨⟨_, rfl, .var _ _ _ (zaL _)⟩, ⟨_, rfl, .var _ _ _ (.cons _ _ _ _ (.r _) (.cons _ _ _ _ (.r _) .nil))⟩, ⟨_, rfl, .var _ _ _ (show CfL _ _ _ zps zps from zaL _)⟩, ⟨_, rfl, .var _ _ _ (show CfL _ _ _ (vsA (cnVs o2 p2 q2 r2 s2)) (vsA (cnVs o2 p2 q2 r2 s2)) from zaL _)⟩, trivial⟩) ?_
 (repeat' (first | refine zai ?_ | (refine is_f 59 ?_; refine zah (cM) ?_) | (refine is_f 26 ?_; refine zah (cF) ?_) | (refine is_f 55 ?_; refine zah (cB) ?_) | (refine zac (fun hb => ?_) (fun hb => ?_) <;> (try (exfalso; omega))) | fail))
 all_goals (first | (exfalso; omega) | exact zsr [] (Rt.psV _ _ _ _ _ _ _ _ _ _ _ _) (.fr 5 _ _ _ rfl) (.int rfl) rfl rfl rfl rfl rfl rfl (zak rfl) rfl)
def p5S (t i ct fT fV la ky : Int) (o : Bool) (p q r s : Int) (tm v : Int) (o2 : Bool) (p2 q2 r2 s2 : Int) : St := ⟨[(2, .pt 0 0), (3, .pt 1 0), (4, .pt 2 0), (9, .pt 3 0)], [(0, some (.var 67 (vsA (psV t i ct fT fV la ky o p q r s)))), (1, some (.var 65 [.r (.v (.int .i64 tm)), .r (.v (.int .i64 v))])), (2, some (.var 67 zps)), (3, some (.var 40 (vsA (cnVs o2 p2 q2 r2 s2))))], 4⟩
def p6S (t i ct fT fV la ky : Int) (o : Bool) (p q r s : Int) : St := ⟨[(2, .pt 0 0), (4, .pt 1 0)], [(0, some (.var 67 (vsA (psV t i ct fT fV la ky o p q r s)))), (1, some (.var 67 zps))], 2⟩
def zj8 (x : Ps) (tm : Int) (m : Cn) : Ps := ⟨x.tol, x.ix, x.ct + 1, x.fT, x.fV, tm, x.ky, m⟩
theorem zoD (h : x.ok1 ∨ x.ok2) (hv : I64 v) (ht : I64 tm) (hf : I64 x.fT) (hlt : x.last < tm) (hlf : x.fT ≤ x.last) (hix : x.ix + x.ct < 1073741824) (m : Cn) (hm : zco x.c (thC x tm v) = some m) : zan Tryz.prog 25 [stA x, .ag [.r (.v (.int .i64 tm)), .r (.v (.int .i64 v))]] [] (.tu [stA (zj8 x tm m), .r (.v (.slice none 0 0)), .r (.v (.int .i64 0))]) [] := by
 obtain ⟨c1, c2, c3, k1, k2⟩ := zj9 x tm v h hv ht hf (by omega)
 have cV := zhs x h
 have cM := zit k2 k1 hm
 have hct : 0 < x.ct := h.elim (fun h => by have := h.2.1; omega) (fun h => by have := h.2.1; omega)
 have h0 : 0 ≤ x.ix := h.elim (fun h => h.1.2.2.1) (fun h => h.1.2.2.1)
 generalize (tm - x.fT).toNat = dt at *
 generalize x.ky * zcx x.tol = bs at *
 clear hm k1 k2 h
 generalize thC x tm v = th at *
 unfold zj8
 have ha : IntKind.i64.wrap (x.ix + x.ct) = x.ix + x.ct := by rw [IntKind.wrap_i64]; omega
 obtain ⟨t, i, ct, fT, fV, la, ky, ⟨o, p, q, r, s⟩⟩ := x
 obtain ⟨o2, p2, q2, r2, s2⟩ := th
 obtain ⟨o3, p3, q3, r3, s3⟩ := m
 unfold stA psVs Cn.A at *
 dsimp only at *
 obtain ⟨n, hn⟩ : ∃ n, n = ct + 1 := ⟨_, rfl⟩
 have ha2 : IntKind.i64.wrap (ct + 1) = n := by rw [IntKind.wrap_i64]; omega
 rw [← hn]
 clear hn
 refine zap Tryz.func25 rfl (Nat.le_of_ble_eq_true rfl) rfl rfl ?_
 (repeat' (first | (first | refine zaH 10 ?_ | refine zaz 10 ?_) | refine za6 ?_ | refine zaG ?_ | (refine is_f 54 ?_; refine zah (cV) ?_) | (refine is_f 57 ?_; refine zah (c1) ?_) | (refine is_f 58 ?_; refine zah (c2) ?_) | (refine is_f 56 ?_; refine zah (c3) ?_) | (refine zac (fun hb => ?_) (fun hb => ?_) <;> (try (exfalso; omega))) | fail))
 all_goals (first | (exfalso; omega) | skip)
 refine halt ?_
 refine zbp (T := p4S t i ct fT fV la ky o p q r s tm v o2 p2 q2 r2 s2) (by
  unfold p4S
  refine Le.mk [(0, 0), (1, 1), (2, 2), (3, 3)] [] rfl (by (repeat' (first | exact zaX | refine zbQ ?_ | refine le_r ?_ rfl rfl | refine za9 ?_ (by omega) rfl | refine zbR ?_ rfl rfl | refine zbS ?_ rfl rfl | refine zbH ?_ rfl zaN rfl rfl | refine zbX ?_ rfl rfl | refine zbW ?_ rfl rfl | refine zbZ ?_ ?_ rfl | refine zb0 ?_ ?_ rfl | refine za4 ?_ rfl | refine zbt ?_ rfl | refine zbi ?_ rfl | exact CfL.nil))) ?_ (fun g h => nomatch h)
  exact ⟨⟨_, rfl, .var _ _ _ (zaL _)⟩, ⟨_, rfl, .var _ _ _ (.cons _ _ _ _ (.r _) (.cons _ _ _ _ (.r _) .nil))⟩, ⟨_, rfl, .var _ _ _ (show CfL _ _ _ zps zps from zaL _)⟩, ⟨_, rfl, .var _ _ _ (show CfL _ _ _ (vsA (cnVs o2 p2 q2 r2 s2)) (vsA (cnVs o2 p2 q2 r2 s2)) from zaL _)⟩, trivial⟩) ?_
 (repeat' (first | (first | refine zaH 14 ?_ | refine zaz 14 ?_) | refine za6 ?_ | refine zaG ?_ | (refine is_f 59 ?_; refine zah (cM) ?_) | (refine zac (fun hb => ?_) (fun hb => ?_) <;> (try (exfalso; omega))) | fail))
 all_goals (first | (exfalso; omega) | skip)
 refine halt ?_
 refine zbp (T := p5S t i ct fT fV la ky o p q r s tm v o3 p3 q3 r3 s3) (by
  unfold p5S
  refine Le.mk [(0, 0), (1, 1), (2, 2), (3, 4)] [] rfl (by (repeat' (first | exact zaX | refine zbQ ?_ | refine le_r ?_ rfl rfl | refine za9 ?_ (by omega) rfl | refine zbR ?_ rfl rfl | refine zbS ?_ rfl rfl | refine zbH ?_ rfl zaN rfl rfl | refine zbX ?_ rfl rfl | refine zbW ?_ rfl rfl | refine zbZ ?_ ?_ rfl | refine zb0 ?_ ?_ rfl | refine za4 ?_ rfl | refine zbt ?_ rfl | refine zbi ?_ rfl | exact CfL.nil))) ?_ (fun g h => nomatch h)
  exact ⟨⟨_, rfl, .var _ _ _ (zaL _)⟩, ⟨_, rfl, .var _ _ _ (.cons _ _ _ _ (.r _) (.cons _ _ _ _ (.r _) .nil))⟩, ⟨_, rfl, .var _ _ _ (show CfL _ _ _ zps zps from zaL _)⟩, ⟨_, rfl, .var _ _ _ (show CfL _ _ _ (vsA (cnVs o3 p3 q3 r3 s3)) (vsA (cnVs o3 p3 q3 r3 s3)) from zaL _)⟩, trivial⟩) ?_
 (repeat' (first | (first | refine zaH 16 ?_ | refine zaz 16 ?_) | refine za6 ?_ | refine zaG ?_ | (refine zac (fun hb => ?_) (fun hb => ?_) <;> (try (exfalso; omega))) | fail))
 all_goals (first | (exfalso; omega) | skip)
 refine halt ?_
 refine zbp (T := p6S t i n fT fV tm ky o3 p3 q3 r3 s3) (by
  unfold p6S
  refine Le.mk [(0, 0), (1, 2)] [] rfl (by (repeat' (first | exact zaX | refine zbQ ?_ | refine le_r ?_ rfl rfl | refine za9 ?_ (by omega) rfl | refine zbR ?_ rfl rfl | refine zbS ?_ rfl rfl | refine zbH ?_ rfl zaN rfl rfl | refine zbX ?_ rfl rfl | refine zbW ?_ rfl rfl | refine zbZ ?_ ?_ rfl | refine zb0 ?_ ?_ rfl | refine za4 ?_ rfl | refine zbt ?_ rfl | refine zbi ?_ rfl | exact CfL.nil))) ?_ (fun g h => nomatch h)
  exact ⟨⟨_, rfl, .var _ _ _ (show CfL _ _ _ (vsA (psV t i n fT fV tm ky o3 p3 q3 r3 s3)) (vsA (psV t i n fT fV tm ky o3 p3 q3 r3 s3)) from zaL _)⟩, ⟨_, rfl, .var _ _ _ (show CfL _ _ _ zps zps from zaL _)⟩, trivial⟩) ?_
 (repeat' (first | refine zai ?_ | (refine zac (fun hb => ?_) (fun hb => ?_) <;> (try (exfalso; omega))) | fail))
 all_goals (first | (exfalso; omega) | exact zsr [] (Rt.psV _ _ _ _ _ _ _ _ _ _ _ _) (.r _) (.int rfl) rfl rfl rfl rfl rfl rfl (zak rfl) rfl)
end
end Go.Proofs.YtibedaeefnjjlaaGreat
