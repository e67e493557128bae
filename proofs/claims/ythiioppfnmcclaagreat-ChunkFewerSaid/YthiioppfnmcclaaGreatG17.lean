/- Texts of the second layer in one: Tq5. -/
import Derived.Test.YthiioppfnmcclaaGreatG16
set_option maxHeartbeats 4000000
set_option maxRecDepth 100000
set_option linter.unusedVariables false
set_option linter.unusedSimpArgs false
namespace Go.Proofs.YthiioppfnmcclaaGreat
open Go.RowKit Go.Ab
theorem zjE (l:List Int) (k:Nat) (n:Nat) (h2:2≤n) (hn9:n<1000000) (hl:Ints l) (hn:l.length≤140737488351232):zam Tryz.prog 35 [.pt 0 0,.r (.v (.int .i64 n))] [tb l k] (.r (.v (.bool (decide (nx l k n=1))))) [some (tb l (adv l k))]:=by
 refine zaA Tryz.func35 rfl (Nat.le_of_ble_eq_true rfl) rfl rfl ?_
 have h1:(1:Int).tmod (n:Int)=((1:Nat):Int):=by rw[Int.tmod_eq_emod_of_nonneg (by omega),Int.emod_eq_of_lt (by omega) (by omega)];rfl
 (repeat' (first|refine zaC ?_|(refine is_f 13 ?_;refine zau (zaS l k n hl hn (by omega)) ?_)|(refine zar (fun hb=>?_) (fun hb=>?_)<;>(try(exfalso;omega)))|fail))
 all_goals exact zcL [] (.bool (by simpa using hb)) rfl rfl (zbi rfl rfl) rfl
theorem u64w (x:Int):IntKind.u64.wrap x=x%18446744073709551616:=by simp[IntKind.wrap,IntKind.bits,IntKind.signed]
theorem i64w (x:Int):IntKind.i64.wrap x=(x+9223372036854775808)%18446744073709551616-9223372036854775808:=by
 simp[IntKind.wrap,IntKind.bits,IntKind.signed]
 split <;>omega
def shv (t:List Int) (k:Nat) (s:Int):Int:=(wds t k 4).1.fdiv (2^min s.toNat (IntKind.bits .u64))
theorem wdsN (l:List Int) (k:Nat):∀j,0≤(wds l k j).1∧(wds l k j).1<18446744073709551616
 |0=>by simp[wds]
 |j+1=>by
  rw[wds]
  simp only[u64w]
  omega
theorem zhk (t:List Int) (k:Nat) (s:Int) (h:1≤s):0≤shv t k s∧shv t k s≤9223372036854775807:=by
 have hw:=wdsN t k 4
 unfold shv
 obtain⟨v,hv⟩:∃v:Nat,(wds t k 4).1=v:=⟨(wds t k 4).1.toNat,by omega⟩
 rw[hv]
 have hp:(0:Int)≤2^min s.toNat (IntKind.bits .u64):=Int.pow_nonneg (by omega)
 rw[Int.fdiv_eq_ediv_of_nonneg _ hp]
 have e:((2:Int)^min s.toNat (IntKind.bits .u64))=((2^min s.toNat (IntKind.bits .u64):Nat):Int):=by push_cast;rfl
 have hm:1≤min s.toNat (IntKind.bits .u64):=Nat.le_min.2 ⟨by omega,by decide⟩
 have h2:2≤2^min s.toNat (IntKind.bits .u64):=by
  have :=Nat.pow_le_pow_right (show 0<2 by omega) hm
  simpa using this
 rw[e]
 generalize 2^min s.toNat (IntKind.bits .u64)=q at *
 have h3:((v:Nat):Int)/((q:Nat):Int)=((v/q:Nat):Int):=by push_cast;rfl
 rw[h3]
 have h4:v/q≤v/2:=Nat.div_le_div_left h2 (by omega)
 have h5:v/2≤9223372036854775807:=by omega
 generalize v/q=r at *
 omega
def tmD (t:List Int) (kind step:Int) (k:Nat):Int×Nat:=
 if kind=1 then(1+nx t k 9,adv t k)
 else if kind=2 then(step+nx t k 3,adv t k)
 else if kind=3 then(1+shv t k (4+nx t (wds t k 4).2 56),adv t (wds t k 4).2)
 else if kind=4 then(if nx t k 4=1 then(1+shv t (adv t k) (1+nx t (wds t (adv t k) 4).2 8),adv t (wds t (adv t k) 4).2)else(step,adv t k))
 else(step,k)
theorem zb6 (t:List Int) (kind step:Int) (k:Nat) (h:1≤step∧step≤50):1≤(tmD t kind step k).1∧(tmD t kind step k).1≤9223372036854775808:=by
 have h9:=zat t k (show(1:Int)≤9 by omega)
 have h3:=zat t k (show(1:Int)≤3 by omega)
 have h56:=zat t (wds t k 4).2 (show(1:Int)≤56 by omega)
 have h8:=zat t (wds t (adv t k) 4).2 (show(1:Int)≤8 by omega)
 have s1:=zhk t k (4+nx t (wds t k 4).2 56) (by omega)
 have s2:=zhk t (adv t k) (1+nx t (wds t (adv t k) 4).2 8) (by omega)
 unfold tmD
 (repeat' split)<;>simp only <;>omega
def tms (t:List Int) (kind step:Int):Nat→Nat→Int→List Int→List Int×Nat
 |0,k,_,acc=>(acc,k)
 |i+1,k,a,acc=>if 9223372036854775807<a+(tmD t kind step k).1 then(acc++[a],(tmD t kind step k).2)else tms t kind step i (tmD t kind step k).2 (a+(tmD t kind step k).1) (acc++[a])
def tmL (t:List Int) (k n:Nat):List Int×Nat:=
 tms t (nx t k 5) (1+nx t (itv t (adv t k)).2 50) (nx t (adv t (itv t (adv t k)).2) ((n:Int)+1)).toNat (adv t (adv t (itv t (adv t k)).2)) (itv t (adv t k)).1 []
theorem zb0 (t:List Int) (k:Nat): -9223372036854775808≤(itv t k).1∧(itv t k).1<9223372036854775808:=by
 have h8:=zat t k (show(1:Int)≤8 by omega)
 have h4:=zat t (adv t k) (show(1:Int)≤4 by omega)
 have h2000:=zat t (adv t k) (show(1:Int)≤2000 by omega)
 unfold itv
 (repeat' split)<;>simp only[i64w]<;>omega
def tmS (t:List Int) (kind step:Int) (i k:Nat) (a:Int) (acc:List Int):St:=
 ⟨[(0,.pt 0 0),(5,.ow 1),(6,.r (.v (.int .i64 kind))),(7,.r (.v (.int .i64 a))),(8,.r (.v (.int .u64 step))),(9,.r (.v (.int .i64 i)))],[(0,some (tb t k)),(1,some (.row 2 1 (nums .i64 acc)))],2⟩
theorem zoF (a:Int) (h: -9223372036854775808≤a∧a<9223372036854775808):IntKind.u64.wrap (9223372036854775807-IntKind.u64.wrap a)=9223372036854775807-a:=by rw[u64w,u64w];omega
theorem zfZ (a d:Int) (h: -9223372036854775808≤a∧a<9223372036854775808) (hd:0≤d) (h2:a+d<9223372036854775808):IntKind.i64.wrap (IntKind.u64.wrap (IntKind.u64.wrap a+d))=a+d:=by rw[i64w,u64w,u64w];omega
theorem znO (t:List Int) (k n:Nat) (ht:Ints t) (htn:t.length≤140737488351232) (hn:n≤1000):zam Tryz.prog 34 [.pt 0 0,.r (.v (.int .i64 n))] [tb t k] (.fr 2 1 (nums .i64 (tmL t k n).1)) [some (tb t (tmL t k n).2)]:=by
 refine zaA Tryz.func34 rfl (Nat.le_of_ble_eq_true rfl) rfl rfl ?_
 have h5:=zat t k (show(1:Int)≤5 by omega)
 have h50:=zat t (itv t (adv t k)).2 (show(1:Int)≤50 by omega)
 have hnn:=zat t (adv t (itv t (adv t k)).2) (show(1:Int)≤(n:Int)+1 by omega)
 have hI:=zb0 t (adv t k)
 (repeat' (first|refine zaC ?_|(refine is_f 13 ?_;refine zau (zaS t k 5 ht htn (by omega)) ?_)|(refine is_f 17 ?_;refine zau (zj6 t (adv t k) ht htn) ?_)|(refine is_f 13 ?_;refine zau (zaS t (itv t (adv t k)).2 50 ht htn (by omega)) ?_)|(refine is_f 13 ?_;refine zau (zaS t (adv t (itv t (adv t k)).2) ((n:Int)+1) ht htn (by omega)) ?_)|(refine zar (fun hb=>?_) (fun hb=>?_)<;>(try(exfalso;omega)))|fail))
 refine zcl 5 2 1 rfl rfl ?_
 have h00:([]:List (List RV))=nums .i64 []:=rfl
 have hR:tmL t k n=tms t (nx t k 5) (1+nx t (itv t (adv t k)).2 50) (nx t (adv t (itv t (adv t k)).2) ((n:Int)+1)).toNat (adv t (adv t (itv t (adv t k)).2)) (itv t (adv t k)).1 []:=rfl
 refine zap (fun x:Nat×Nat×Int×List Int=>tmS t (nx t k 5) (1+nx t (itv t (adv t k)).2 50) x.1 x.2.1 x.2.2.1 x.2.2.2) (fun x=>tms t (nx t k 5) (1+nx t (itv t (adv t k)).2 50) x.1 x.2.1 x.2.2.1 x.2.2.2=tmL t k n∧(-9223372036854775808≤x.2.2.1∧x.2.2.1<9223372036854775808)∧x.2.2.2.length+x.1≤n) (fun x=>x.1)
  ((nx t (adv t (itv t (adv t k)).2) ((n:Int)+1)).toNat,adv t (adv t (itv t (adv t k)).2),(itv t (adv t k)).1,[]) ⟨rfl,hI,by simp;omega⟩ (by(refine Le.mk [(0,0),(1,1)] [] rfl za9 zaT zah)) fun x hx=>?_
 obtain⟨i,q,a,acc⟩:=x
 obtain⟨hx1,hx2,hx3⟩:=hx
 dsimp only at hx1 hx2 hx3
 generalize tmL t k n=R at *
 generalize nx t k 5=kind at *
 generalize hst:1+nx t (itv t (adv t k)).2 50=step at *
 have hst2:1≤step∧step≤50:=by omega
 clear hst h50 hnn hI
 change awp _ _ _ _ _ (tmS t kind step i q a acc)
 have hal:=zao .i64 acc
 rcases i with _|j
 ·rw[tms]at hx1
  subst hx1
  (repeat' (first|refine zaC ?_|(refine zar (fun hb=>?_) (fun hb=>?_)<;>(try(exfalso;omega)))|fail))
  all_goals exact zcL [] (.fr 1 _ _ _ rfl) rfl rfl (zbi rfl rfl) rfl
 ·rw[tms]at hx1
  have hE:nums .i64 acc++[[.v (.int .i64 a)]]=nums .i64 (acc++[a]):=by rw[nums_append];rfl
  have hsub:=zoF a hx2
  by_cases k1:kind=1
  ·have h9:=zat t q (show(1:Int)≤9 by omega)
   have hD:tmD t kind step q=(1+nx t q 9,adv t q):=by unfold tmD;(repeat' split)<;>first|rfl|(exfalso;omega)
   have hdr:=zb6 t kind step q hst2
   rw[hD]at hx1 hdr
   dsimp only at hx1 hdr
   by_cases hov:9223372036854775807<a+(1+nx t q 9)
   ·rw[if_pos hov]at hx1
    subst hx1
    (repeat' (first|refine zaC ?_|(refine is_f 13 ?_;refine zau (zaS t q 9 ht htn (by omega)) ?_)|(refine zar (fun hb=>?_) (fun hb=>?_)<;>(try(exfalso;omega)))|fail))
    all_goals (try dsimp only);all_goals (rw[←hE];exact zcL [] (.fr 3 _ _ _ rfl) rfl rfl (zbi rfl rfl) rfl)
   ·rw[if_neg hov]at hx1
    have hcv:=zfZ a (1+nx t q 9) hx2 (by omega) (by omega)
    (repeat' (first|refine zaC ?_|(refine is_f 13 ?_;refine zau (zaS t q 9 ht htn (by omega)) ?_)|(refine zar (fun hb=>?_) (fun hb=>?_)<;>(try(exfalso;omega)))|fail))
    all_goals exact⟨(j,adv t q,a+(1+nx t q 9),acc++[a]),⟨hx1,⟨by dsimp only;omega,by dsimp only;omega⟩,by dsimp only;rw[List.length_append];simp;omega⟩,by show Le _ _ (tmS t kind step j (adv t q) (a+(1+nx t q 9)) (acc++[a]));(refine Le.mk [(0,0),(1,3)] [] rfl za9 zaT zah),by show j<j+1;omega⟩
  ·by_cases k2:kind=2
   ·have h3:=zat t q (show(1:Int)≤3 by omega)
    have hD:tmD t kind step q=(step+nx t q 3,adv t q):=by unfold tmD;(repeat' split)<;>first|rfl|(exfalso;omega)
    have hdr:=zb6 t kind step q hst2
    rw[hD]at hx1 hdr
    dsimp only at hx1 hdr
    by_cases hov:9223372036854775807<a+(step+nx t q 3)
    ·rw[if_pos hov]at hx1
     subst hx1
     (repeat' (first|refine zaC ?_|(refine is_f 13 ?_;refine zau (zaS t q 3 ht htn (by omega)) ?_)|(refine zar (fun hb=>?_) (fun hb=>?_)<;>(try(exfalso;omega)))|fail))
     all_goals (try dsimp only);all_goals (rw[←hE];exact zcL [] (.fr 3 _ _ _ rfl) rfl rfl (zbi rfl rfl) rfl)
    ·rw[if_neg hov]at hx1
     have hcv:=zfZ a (step+nx t q 3) hx2 (by omega) (by omega)
     (repeat' (first|refine zaC ?_|(refine is_f 13 ?_;refine zau (zaS t q 3 ht htn (by omega)) ?_)|(refine zar (fun hb=>?_) (fun hb=>?_)<;>(try(exfalso;omega)))|fail))
     all_goals exact⟨(j,adv t q,a+(step+nx t q 3),acc++[a]),⟨hx1,⟨by dsimp only;omega,by dsimp only;omega⟩,by dsimp only;rw[List.length_append];simp;omega⟩,by show Le _ _ (tmS t kind step j (adv t q) (a+(step+nx t q 3)) (acc++[a]));(refine Le.mk [(0,0),(1,3)] [] rfl za9 zaT zah),by show j<j+1;omega⟩
   ·by_cases k3:kind=3
    ·have h56:=zat t (wds t q 4).2 (show(1:Int)≤56 by omega)
     have hsh:(wds t q 4).1.fdiv (2^min (4+nx t (wds t q 4).2 56).toNat (IntKind.bits .u64))=shv t q (4+nx t (wds t q 4).2 56):=rfl
     have hD:tmD t kind step q=(1+shv t q (4+nx t (wds t q 4).2 56),adv t (wds t q 4).2):=by unfold tmD;(repeat' split)<;>first|rfl|(exfalso;omega)
     have hdr:=zb6 t kind step q hst2
     rw[hD]at hx1 hdr
     dsimp only at hx1 hdr
     by_cases hov:9223372036854775807<a+(1+shv t q (4+nx t (wds t q 4).2 56))
     ·rw[if_pos hov]at hx1
      subst hx1
      (repeat' (first|refine zaC ?_|(refine is_f 18 ?_;refine zau (zf5 t q ht htn) ?_)|(refine is_f 13 ?_;refine zau (zaS t (wds t q 4).2 56 ht htn (by omega)) ?_)|(refine zar (fun hb=>?_) (fun hb=>?_)<;>(try(exfalso;omega)))|fail))
      all_goals (try dsimp only);all_goals (rw[←hE];exact zcL [] (.fr 3 _ _ _ rfl) rfl rfl (zbi rfl rfl) rfl)
     ·rw[if_neg hov]at hx1
      have hcv:=zfZ a (1+shv t q (4+nx t (wds t q 4).2 56)) hx2 (by omega) (by omega)
      (repeat' (first|refine zaC ?_|(refine is_f 18 ?_;refine zau (zf5 t q ht htn) ?_)|(refine is_f 13 ?_;refine zau (zaS t (wds t q 4).2 56 ht htn (by omega)) ?_)|(refine zar (fun hb=>?_) (fun hb=>?_)<;>(try(exfalso;omega)))|fail))
      all_goals exact⟨(j,adv t (wds t q 4).2,a+(1+shv t q (4+nx t (wds t q 4).2 56)),acc++[a]),⟨hx1,⟨by dsimp only;omega,by dsimp only;omega⟩,by dsimp only;rw[List.length_append];simp;omega⟩,by show Le _ _ (tmS t kind step j (adv t (wds t q 4).2) (a+(1+shv t q (4+nx t (wds t q 4).2 56))) (acc++[a]));(refine Le.mk [(0,0),(1,3)] [] rfl za9 zaT zah),by show j<j+1;omega⟩
    ·by_cases k4:kind=4
     ·by_cases k5:nx t q 4=1
      ·have h8:=zat t (wds t (adv t q) 4).2 (show(1:Int)≤8 by omega)
       have hsh:(wds t (adv t q) 4).1.fdiv (2^min (1+nx t (wds t (adv t q) 4).2 8).toNat (IntKind.bits .u64))=shv t (adv t q) (1+nx t (wds t (adv t q) 4).2 8):=rfl
       have hD:tmD t kind step q=(1+shv t (adv t q) (1+nx t (wds t (adv t q) 4).2 8),adv t (wds t (adv t q) 4).2):=by unfold tmD;(repeat' split)<;>first|rfl|(exfalso;omega)
       have hdr:=zb6 t kind step q hst2
       rw[hD]at hx1 hdr
       dsimp only at hx1 hdr
       by_cases hov:9223372036854775807<a+(1+shv t (adv t q) (1+nx t (wds t (adv t q) 4).2 8))
       ·rw[if_pos hov]at hx1
        subst hx1
        (repeat' (first|refine zaC ?_|(refine is_f 35 ?_;refine zau (zfK t q ht htn) ?_)|(refine is_f 18 ?_;refine zau (zf5 t (adv t q) ht htn) ?_)|(refine is_f 13 ?_;refine zau (zaS t (wds t (adv t q) 4).2 8 ht htn (by omega)) ?_)|(refine zar (fun hb=>?_) (fun hb=>?_)<;>(try(exfalso;omega)))|fail))
        all_goals (try dsimp only);all_goals (rw[←hE];exact zcL [] (.fr 3 _ _ _ rfl) rfl rfl (zbi rfl rfl) rfl)
       ·rw[if_neg hov]at hx1
        have hcv:=zfZ a (1+shv t (adv t q) (1+nx t (wds t (adv t q) 4).2 8)) hx2 (by omega) (by omega)
        (repeat' (first|refine zaC ?_|(refine is_f 35 ?_;refine zau (zfK t q ht htn) ?_)|(refine is_f 18 ?_;refine zau (zf5 t (adv t q) ht htn) ?_)|(refine is_f 13 ?_;refine zau (zaS t (wds t (adv t q) 4).2 8 ht htn (by omega)) ?_)|(refine zar (fun hb=>?_) (fun hb=>?_)<;>(try(exfalso;omega)))|fail))
        all_goals exact⟨(j,adv t (wds t (adv t q) 4).2,a+(1+shv t (adv t q) (1+nx t (wds t (adv t q) 4).2 8)),acc++[a]),⟨hx1,⟨by dsimp only;omega,by dsimp only;omega⟩,by dsimp only;rw[List.length_append];simp;omega⟩,by show Le _ _ (tmS t kind step j (adv t (wds t (adv t q) 4).2) (a+(1+shv t (adv t q) (1+nx t (wds t (adv t q) 4).2 8))) (acc++[a]));(refine Le.mk [(0,0),(1,3)] [] rfl za9 zaT zah),by show j<j+1;omega⟩
      ·have hD:tmD t kind step q=(step,adv t q):=by unfold tmD;(repeat' split)<;>first|rfl|(exfalso;omega)
       have hdr:=zb6 t kind step q hst2
       rw[hD]at hx1 hdr
       dsimp only at hx1 hdr
       by_cases hov:9223372036854775807<a+(step)
       ·rw[if_pos hov]at hx1
        subst hx1
        (repeat' (first|refine zaC ?_|(refine is_f 35 ?_;refine zau (zfK t q ht htn) ?_)|(refine zar (fun hb=>?_) (fun hb=>?_)<;>(try(exfalso;omega)))|fail))
        all_goals (try dsimp only);all_goals (rw[←hE];exact zcL [] (.fr 3 _ _ _ rfl) rfl rfl (zbi rfl rfl) rfl)
       ·rw[if_neg hov]at hx1
        have hcv:=zfZ a (step) hx2 (by omega) (by omega)
        (repeat' (first|refine zaC ?_|(refine is_f 35 ?_;refine zau (zfK t q ht htn) ?_)|(refine zar (fun hb=>?_) (fun hb=>?_)<;>(try(exfalso;omega)))|fail))
        all_goals exact⟨(j,adv t q,a+(step),acc++[a]),⟨hx1,⟨by dsimp only;omega,by dsimp only;omega⟩,by dsimp only;rw[List.length_append];simp;omega⟩,by show Le _ _ (tmS t kind step j (adv t q) (a+(step)) (acc++[a]));(refine Le.mk [(0,0),(1,3)] [] rfl za9 zaT zah),by show j<j+1;omega⟩
     ·have hD:tmD t kind step q=(step,q):=by unfold tmD;(repeat' split)<;>first|rfl|(exfalso;omega)
      have hdr:=zb6 t kind step q hst2
      rw[hD]at hx1 hdr
      dsimp only at hx1 hdr
      by_cases hov:9223372036854775807<a+(step)
      ·rw[if_pos hov]at hx1
       subst hx1
       (repeat' (first|refine zaC ?_|(refine is_f 35 ?_;refine zau (zfK t q ht htn) ?_)|(refine zar (fun hb=>?_) (fun hb=>?_)<;>(try(exfalso;omega)))|fail))
       all_goals (try dsimp only);all_goals (rw[←hE];exact zcL [] (.fr 3 _ _ _ rfl) rfl rfl (zbi rfl rfl) rfl)
      ·rw[if_neg hov]at hx1
       have hcv:=zfZ a (step) hx2 (by omega) (by omega)
       (repeat' (first|refine zaC ?_|(refine is_f 35 ?_;refine zau (zfK t q ht htn) ?_)|(refine zar (fun hb=>?_) (fun hb=>?_)<;>(try(exfalso;omega)))|fail))
       all_goals exact⟨(j,q,a+(step),acc++[a]),⟨hx1,⟨by dsimp only;omega,by dsimp only;omega⟩,by dsimp only;rw[List.length_append];simp;omega⟩,by show Le _ _ (tmS t kind step j (q) (a+(step)) (acc++[a]));(refine Le.mk [(0,0),(1,3)] [] rfl za9 zaT zah),by show j<j+1;omega⟩
end Go.Proofs.YthiioppfnmcclaaGreat
