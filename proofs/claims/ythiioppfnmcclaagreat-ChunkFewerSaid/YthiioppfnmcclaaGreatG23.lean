/- Texts of the second layer in one: Tq6 Tq10 Ch6 Lc1 Lc2. -/
import Derived.Test.YthiioppfnmcclaaGreatG17
import Derived.Test.YthiioppfnmcclaaGreatG20
import Derived.Test.YthiioppfnmcclaaGreatG22
set_option maxHeartbeats 8000000
set_option maxRecDepth 100000
set_option linter.unusedVariables false
set_option linter.unusedSimpArgs false
namespace Go.Proofs.YthiioppfnmcclaaGreat
open Go.RowKit Go.Ab
def smX (t:List Int) (kind slope:Int) (i:Nat) (v:Int) (k:Nat):Int×Int×Nat:=
 if kind=1 then(IntKind.i64.wrap (v+IntKind.i64.wrap ((i:Int)*slope)),v,k)
 else if kind=2 then(IntKind.i64.wrap (IntKind.i64.wrap (v+IntKind.i64.wrap ((i:Int)*slope))+(nx t k 7-3)),v,adv t k)
 else if kind=3 then(IntKind.i64.wrap (v+(nx t k 9-4)),v,adv t k)
 else if kind=4 then((itv t k).1,v,(itv t k).2)
 else if kind=5 then(if nx t k (5:Nat)=1 then(IntKind.i64.wrap (IntKind.i64.wrap (v+(nx t (adv t k) 400-200))+nx t (adv t (adv t k)) 3),IntKind.i64.wrap (v+(nx t (adv t k) 400-200)),adv t (adv t (adv t k)))else(IntKind.i64.wrap (v+nx t (adv t k) 3),v,adv t (adv t k)))
 else if kind=6 then(IntKind.i64.wrap (IntKind.i64.wrap (nx t k 50*nx t (adv t k) 50)*slope),v,adv t (adv t k))
 else(v,v,k)
def sms (t:List Int) (kind slope:Int) (ts:List Int):Nat→Nat→Int→Nat→List (Int×Int)→List (Int×Int)×Nat
 |0,i,v,k,acc=>(acc,k)
 |j+1,i,v,k,acc=>sms t kind slope ts j (i+1) (smX t kind slope i v k).2.1 (smX t kind slope i v k).2.2 (acc++[(ts.getD i 0,(smX t kind slope i v k).1)])
def smpL (t:List Int) (k n:Nat):List (Int×Int)×Nat:=
 sms t (nx t (tmL t k n).2 7) (nx t (itv t (adv t (tmL t k n).2)).2 41-20) (tmL t k n).1 (tmL t k n).1.length 0 (itv t (adv t (tmL t k n).2)).1 (adv t (itv t (adv t (tmL t k n).2)).2) []
theorem zkX (t:List Int) (kind step:Int):∀(i k:Nat) (a:Int) (acc:List Int),(tms t kind step i k a acc).1.length≤acc.length+i
 |0,k,a,acc=>by simp[tms]
 |i+1,k,a,acc=>by
  rw[tms]
  split
  ·simp
  ·have :=zkX t kind step i (tmD t kind step k).2 (a+(tmD t kind step k).1) (acc++[a])
   simp at this
   omega
theorem zkW (t:List Int) (k n:Nat):(tmL t k n).1.length≤n:=by
 have h:=zkX t (nx t k 5) (1+nx t (itv t (adv t k)).2 50) (nx t (adv t (itv t (adv t k)).2) ((n:Int)+1)).toNat (adv t (adv t (itv t (adv t k)).2)) (itv t (adv t k)).1 []
 have hn:=zat t (adv t (itv t (adv t k)).2) (show(1:Int)≤(n:Int)+1 by omega)
 unfold tmL
 simp at h
 omega
def smS (t:List Int) (kind slope:Int) (ts:List Int) (i:Nat) (v:Int) (k:Nat) (acc:List (Int×Int)):St:=
 ⟨[(0,.pt 0 0),(5,.r (.sl 1 (nums .i64 ts))),(6,.ow 1),(7,.r (.v (.int .i64 kind))),(8,.r (.v (.int .i64 v))),(9,.r (.v (.int .i64 slope))),(10,.r (.v (.int .i64 i)))],[(0,some (tb t k)),(1,some (.row 48 2 (smps acc)))],2⟩
theorem zkF (t:List Int) (k n:Nat) (ht:Ints t) (htn:t.length≤140737488351232) (hn:n≤1000):zam Tryz.prog 16 [.pt 0 0,.r (.v (.int .i64 n))] [tb t k] (.fr 48 2 (smps (smpL t k n).1)) [some (tb t (smpL t k n).2)]:=by
 refine zaA Tryz.func16 rfl (Nat.le_of_ble_eq_true rfl) rfl rfl ?_
 have h7:=zat t (tmL t k n).2 (show(1:Int)≤7 by omega)
 have h41:=zat t (itv t (adv t (tmL t k n).2)).2 (show(1:Int)≤41 by omega)
 have hI:=zb0 t (adv t (tmL t k n).2)
 (repeat' (first|refine zaC ?_|(refine is_f 34 ?_;refine zau (znO t k n ht htn hn) ?_)|(refine is_f 13 ?_;refine zau (zaS t (tmL t k n).2 7 ht htn (by omega)) ?_)|(refine is_f 17 ?_;refine zau (zj6 t (adv t (tmL t k n).2) ht htn) ?_)|(refine is_f 13 ?_;refine zau (zaS t (itv t (adv t (tmL t k n).2)).2 41 ht htn (by omega)) ?_)|(refine zar (fun hb=>?_) (fun hb=>?_)<;>(try(exfalso;omega)))|fail))
 refine zcl 6 48 2 rfl rfl ?_
 have h00:([]:List (List RV))=smps []:=rfl
 have hlen:=zkW t k n
 refine zap (fun x:Nat×Int×Nat×List (Int×Int)=>smS t (nx t (tmL t k n).2 7) (nx t (itv t (adv t (tmL t k n).2)).2 41-20) (tmL t k n).1 x.1 x.2.1 x.2.2.1 x.2.2.2) (fun x=>x.1≤(tmL t k n).1.length∧sms t (nx t (tmL t k n).2 7) (nx t (itv t (adv t (tmL t k n).2)).2 41-20) (tmL t k n).1 ((tmL t k n).1.length-x.1) x.1 x.2.1 x.2.2.1 x.2.2.2=smpL t k n∧x.2.2.2.length=x.1) (fun x=>(tmL t k n).1.length-x.1)
  (0,(itv t (adv t (tmL t k n).2)).1,adv t (itv t (adv t (tmL t k n).2)).2,[]) ⟨Nat.zero_le _,rfl,rfl⟩ (by(refine Le.mk [(0,0),(1,2)] [1] rfl za9 zaT zah)) fun x hx=>?_
 obtain⟨i,v,q,acc⟩:=x
 obtain⟨hx1,hx2,hx3⟩:=hx
 dsimp only at hx1 hx2 hx3
 generalize smpL t k n=R at *
 clear hI
 generalize nx t (tmL t k n).2 7=kind at *
 generalize hsl:nx t (itv t (adv t (tmL t k n).2)).2 41-20=slope at *
 have hs2: -20≤slope∧slope≤20:=by omega
 clear hsl h41
 generalize(tmL t k n).1=ts at *
 change awp _ _ _ _ _ (smS t kind slope ts i v q acc)
 have hbl:(nums .i64 ts).length=ts.length:=zao .i64 ts
 have hal:=zbQ acc
 rcases Nat.lt_or_ge i ts.length with hi|hi
 ·obtain⟨j,hj⟩:∃j,ts.length-i=j+1:=⟨ts.length-i-1,by omega⟩
  have hj2:j=ts.length-(i+1):=by omega
  rw[hj,sms]at hx2
  subst hj2
  by_cases k1:kind=1
  ·have hD:smX t kind slope i v q=(IntKind.i64.wrap (v+IntKind.i64.wrap ((i:Int)*slope)),v,q):=by unfold smX;(repeat' split)<;>first|rfl|(exfalso;omega)
   rw[hD]at hx2
   dsimp only at hx2
   have hE:smps acc++[[.v (.int .i64 (ts.getD i 0)),.v (.int .i64 (IntKind.i64.wrap (v+IntKind.i64.wrap ((i:Int)*slope))))]]=smps (acc++[(ts.getD i 0,IntKind.i64.wrap (v+IntKind.i64.wrap ((i:Int)*slope)))]):=by rw[za6];rfl
   (repeat' (first|refine zaC ?_|(refine zar (fun hb=>?_) (fun hb=>?_)<;>(try(exfalso;omega)))|fail))
   all_goals exact⟨(i+1,v,q,acc++[(ts.getD i 0,IntKind.i64.wrap (v+IntKind.i64.wrap ((i:Int)*slope)))]),⟨by show i+1≤ts.length;omega,hx2,by show(acc++[(ts.getD i 0,IntKind.i64.wrap (v+IntKind.i64.wrap ((i:Int)*slope)))]).length=i+1;rw[List.length_append,hx3];rfl⟩,by show Le _ _ (smS t kind slope ts (i+1) (v) (q) (acc++[(ts.getD i 0,IntKind.i64.wrap (v+IntKind.i64.wrap ((i:Int)*slope)))]));(refine Le.mk [(0,0),(1,3)] [] rfl za9 zaT zah),by show ts.length-(i+1)<ts.length-i;omega⟩
  ·by_cases k2:kind=2
   ·have h9:=zat t q (show(1:Int)≤7 by omega)
    have hD:smX t kind slope i v q=(IntKind.i64.wrap (IntKind.i64.wrap (v+IntKind.i64.wrap ((i:Int)*slope))+(nx t q 7-3)),v,adv t q):=by unfold smX;(repeat' split)<;>first|rfl|(exfalso;omega)
    rw[hD]at hx2
    dsimp only at hx2
    have hE:smps acc++[[.v (.int .i64 (ts.getD i 0)),.v (.int .i64 (IntKind.i64.wrap (IntKind.i64.wrap (v+IntKind.i64.wrap ((i:Int)*slope))+(nx t q 7-3))))]]=smps (acc++[(ts.getD i 0,IntKind.i64.wrap (IntKind.i64.wrap (v+IntKind.i64.wrap ((i:Int)*slope))+(nx t q 7-3)))]):=by rw[za6];rfl
    (repeat' (first|refine zaC ?_|(refine is_f 13 ?_;refine zau (zaS t q 7 ht htn (by omega)) ?_)|(refine zar (fun hb=>?_) (fun hb=>?_)<;>(try(exfalso;omega)))|fail))
    all_goals exact⟨(i+1,v,adv t q,acc++[(ts.getD i 0,IntKind.i64.wrap (IntKind.i64.wrap (v+IntKind.i64.wrap ((i:Int)*slope))+(nx t q 7-3)))]),⟨by show i+1≤ts.length;omega,hx2,by show(acc++[(ts.getD i 0,IntKind.i64.wrap (IntKind.i64.wrap (v+IntKind.i64.wrap ((i:Int)*slope))+(nx t q 7-3)))]).length=i+1;rw[List.length_append,hx3];rfl⟩,by show Le _ _ (smS t kind slope ts (i+1) (v) (adv t q) (acc++[(ts.getD i 0,IntKind.i64.wrap (IntKind.i64.wrap (v+IntKind.i64.wrap ((i:Int)*slope))+(nx t q 7-3)))]));(refine Le.mk [(0,0),(1,3)] [] rfl za9 zaT zah),by show ts.length-(i+1)<ts.length-i;omega⟩
   ·by_cases k3:kind=3
    ·have h9:=zat t q (show(1:Int)≤9 by omega)
     have hD:smX t kind slope i v q=(IntKind.i64.wrap (v+(nx t q 9-4)),v,adv t q):=by unfold smX;(repeat' split)<;>first|rfl|(exfalso;omega)
     rw[hD]at hx2
     dsimp only at hx2
     have hE:smps acc++[[.v (.int .i64 (ts.getD i 0)),.v (.int .i64 (IntKind.i64.wrap (v+(nx t q 9-4))))]]=smps (acc++[(ts.getD i 0,IntKind.i64.wrap (v+(nx t q 9-4)))]):=by rw[za6];rfl
     (repeat' (first|refine zaC ?_|(refine is_f 13 ?_;refine zau (zaS t q 9 ht htn (by omega)) ?_)|(refine zar (fun hb=>?_) (fun hb=>?_)<;>(try(exfalso;omega)))|fail))
     all_goals exact⟨(i+1,v,adv t q,acc++[(ts.getD i 0,IntKind.i64.wrap (v+(nx t q 9-4)))]),⟨by show i+1≤ts.length;omega,hx2,by show(acc++[(ts.getD i 0,IntKind.i64.wrap (v+(nx t q 9-4)))]).length=i+1;rw[List.length_append,hx3];rfl⟩,by show Le _ _ (smS t kind slope ts (i+1) (v) (adv t q) (acc++[(ts.getD i 0,IntKind.i64.wrap (v+(nx t q 9-4)))]));(refine Le.mk [(0,0),(1,3)] [] rfl za9 zaT zah),by show ts.length-(i+1)<ts.length-i;omega⟩
    ·by_cases k4:kind=4
     ·have hD:smX t kind slope i v q=((itv t q).1,v,(itv t q).2):=by unfold smX;(repeat' split)<;>first|rfl|(exfalso;omega)
      rw[hD]at hx2
      dsimp only at hx2
      have hE:smps acc++[[.v (.int .i64 (ts.getD i 0)),.v (.int .i64 ((itv t q).1))]]=smps (acc++[(ts.getD i 0,(itv t q).1)]):=by rw[za6];rfl
      (repeat' (first|refine zaC ?_|(refine is_f 17 ?_;refine zau (zj6 t q ht htn) ?_)|(refine zar (fun hb=>?_) (fun hb=>?_)<;>(try(exfalso;omega)))|fail))
      all_goals exact⟨(i+1,v,(itv t q).2,acc++[(ts.getD i 0,(itv t q).1)]),⟨by show i+1≤ts.length;omega,hx2,by show(acc++[(ts.getD i 0,(itv t q).1)]).length=i+1;rw[List.length_append,hx3];rfl⟩,by show Le _ _ (smS t kind slope ts (i+1) (v) ((itv t q).2) (acc++[(ts.getD i 0,(itv t q).1)]));(refine Le.mk [(0,0),(1,3)] [] rfl za9 zaT zah),by show ts.length-(i+1)<ts.length-i;omega⟩
     ·by_cases k5:kind=5
      ·by_cases k5b:nx t q (5:Nat)=1
       ·have h400:=zat t (adv t q) (show(1:Int)≤400 by omega)
        have h3:=zat t (adv t (adv t q)) (show(1:Int)≤3 by omega)
        have hD:smX t kind slope i v q=(IntKind.i64.wrap (IntKind.i64.wrap (v+(nx t (adv t q) 400-200))+nx t (adv t (adv t q)) 3),IntKind.i64.wrap (v+(nx t (adv t q) 400-200)),adv t (adv t (adv t q))):=by unfold smX;(repeat' split)<;>first|rfl|(exfalso;omega)
        rw[hD]at hx2
        dsimp only at hx2
        have hE:smps acc++[[.v (.int .i64 (ts.getD i 0)),.v (.int .i64 (IntKind.i64.wrap (IntKind.i64.wrap (v+(nx t (adv t q) 400-200))+nx t (adv t (adv t q)) 3)))]]=smps (acc++[(ts.getD i 0,IntKind.i64.wrap (IntKind.i64.wrap (v+(nx t (adv t q) 400-200))+nx t (adv t (adv t q)) 3))]):=by rw[za6];rfl
        (repeat' (first|refine zaC ?_|(refine is_f 35 ?_;refine zau (zjE t q 5 (by omega) (by omega) ht htn) ?_)|(refine is_f 13 ?_;refine zau (zaS t (adv t q) 400 ht htn (by omega)) ?_)|(refine is_f 13 ?_;refine zau (zaS t (adv t (adv t q)) 3 ht htn (by omega)) ?_)|(refine zar (fun hb=>?_) (fun hb=>?_)<;>(try(exfalso;omega)))|fail))
        all_goals exact⟨(i+1,IntKind.i64.wrap (v+(nx t (adv t q) 400-200)),adv t (adv t (adv t q)),acc++[(ts.getD i 0,IntKind.i64.wrap (IntKind.i64.wrap (v+(nx t (adv t q) 400-200))+nx t (adv t (adv t q)) 3))]),⟨by show i+1≤ts.length;omega,hx2,by show(acc++[(ts.getD i 0,IntKind.i64.wrap (IntKind.i64.wrap (v+(nx t (adv t q) 400-200))+nx t (adv t (adv t q)) 3))]).length=i+1;rw[List.length_append,hx3];rfl⟩,by show Le _ _ (smS t kind slope ts (i+1) (IntKind.i64.wrap (v+(nx t (adv t q) 400-200))) (adv t (adv t (adv t q))) (acc++[(ts.getD i 0,IntKind.i64.wrap (IntKind.i64.wrap (v+(nx t (adv t q) 400-200))+nx t (adv t (adv t q)) 3))]));(refine Le.mk [(0,0),(1,3)] [] rfl za9 zaT zah),by show ts.length-(i+1)<ts.length-i;omega⟩
       ·have h3:=zat t (adv t q) (show(1:Int)≤3 by omega)
        have hD:smX t kind slope i v q=(IntKind.i64.wrap (v+nx t (adv t q) 3),v,adv t (adv t q)):=by unfold smX;(repeat' split)<;>first|rfl|(exfalso;omega)
        rw[hD]at hx2
        dsimp only at hx2
        have hE:smps acc++[[.v (.int .i64 (ts.getD i 0)),.v (.int .i64 (IntKind.i64.wrap (v+nx t (adv t q) 3)))]]=smps (acc++[(ts.getD i 0,IntKind.i64.wrap (v+nx t (adv t q) 3))]):=by rw[za6];rfl
        (repeat' (first|refine zaC ?_|(refine is_f 35 ?_;refine zau (zjE t q 5 (by omega) (by omega) ht htn) ?_)|(refine is_f 13 ?_;refine zau (zaS t (adv t q) 3 ht htn (by omega)) ?_)|(refine zar (fun hb=>?_) (fun hb=>?_)<;>(try(exfalso;omega)))|fail))
        all_goals exact⟨(i+1,v,adv t (adv t q),acc++[(ts.getD i 0,IntKind.i64.wrap (v+nx t (adv t q) 3))]),⟨by show i+1≤ts.length;omega,hx2,by show(acc++[(ts.getD i 0,IntKind.i64.wrap (v+nx t (adv t q) 3))]).length=i+1;rw[List.length_append,hx3];rfl⟩,by show Le _ _ (smS t kind slope ts (i+1) (v) (adv t (adv t q)) (acc++[(ts.getD i 0,IntKind.i64.wrap (v+nx t (adv t q) 3))]));(refine Le.mk [(0,0),(1,3)] [] rfl za9 zaT zah),by show ts.length-(i+1)<ts.length-i;omega⟩
      ·by_cases k6:kind=6
       ·have h50:=zat t q (show(1:Int)≤50 by omega)
        have h51:=zat t (adv t q) (show(1:Int)≤50 by omega)
        have hD:smX t kind slope i v q=(IntKind.i64.wrap (IntKind.i64.wrap (nx t q 50*nx t (adv t q) 50)*slope),v,adv t (adv t q)):=by unfold smX;(repeat' split)<;>first|rfl|(exfalso;omega)
        rw[hD]at hx2
        dsimp only at hx2
        have hE:smps acc++[[.v (.int .i64 (ts.getD i 0)),.v (.int .i64 (IntKind.i64.wrap (IntKind.i64.wrap (nx t q 50*nx t (adv t q) 50)*slope)))]]=smps (acc++[(ts.getD i 0,IntKind.i64.wrap (IntKind.i64.wrap (nx t q 50*nx t (adv t q) 50)*slope))]):=by rw[za6];rfl
        (repeat' (first|refine zaC ?_|(refine is_f 13 ?_;refine zau (zaS t q 50 ht htn (by omega)) ?_)|(refine is_f 13 ?_;refine zau (zaS t (adv t q) 50 ht htn (by omega)) ?_)|(refine zar (fun hb=>?_) (fun hb=>?_)<;>(try(exfalso;omega)))|fail))
        all_goals exact⟨(i+1,v,adv t (adv t q),acc++[(ts.getD i 0,IntKind.i64.wrap (IntKind.i64.wrap (nx t q 50*nx t (adv t q) 50)*slope))]),⟨by show i+1≤ts.length;omega,hx2,by show(acc++[(ts.getD i 0,IntKind.i64.wrap (IntKind.i64.wrap (nx t q 50*nx t (adv t q) 50)*slope))]).length=i+1;rw[List.length_append,hx3];rfl⟩,by show Le _ _ (smS t kind slope ts (i+1) (v) (adv t (adv t q)) (acc++[(ts.getD i 0,IntKind.i64.wrap (IntKind.i64.wrap (nx t q 50*nx t (adv t q) 50)*slope))]));(refine Le.mk [(0,0),(1,3)] [] rfl za9 zaT zah),by show ts.length-(i+1)<ts.length-i;omega⟩
       ·have hD:smX t kind slope i v q=(v,v,q):=by unfold smX;(repeat' split)<;>first|rfl|(exfalso;omega)
        rw[hD]at hx2
        dsimp only at hx2
        have hE:smps acc++[[.v (.int .i64 (ts.getD i 0)),.v (.int .i64 (v))]]=smps (acc++[(ts.getD i 0,v)]):=by rw[za6];rfl
        (repeat' (first|refine zaC ?_|(refine zar (fun hb=>?_) (fun hb=>?_)<;>(try(exfalso;omega)))|fail))
        all_goals exact⟨(i+1,v,q,acc++[(ts.getD i 0,v)]),⟨by show i+1≤ts.length;omega,hx2,by show(acc++[(ts.getD i 0,v)]).length=i+1;rw[List.length_append,hx3];rfl⟩,by show Le _ _ (smS t kind slope ts (i+1) (v) (q) (acc++[(ts.getD i 0,v)]));(refine Le.mk [(0,0),(1,3)] [] rfl za9 zaT zah),by show ts.length-(i+1)<ts.length-i;omega⟩
 ·have hz:ts.length-i=0:=by omega
  rw[hz,sms]at hx2
  subst hx2
  (repeat' (first|refine zaC ?_|(refine zar (fun hb=>?_) (fun hb=>?_)<;>(try(exfalso;omega)))|fail))
  all_goals exact zcL [] (.fr 1 _ _ _ rfl) rfl rfl (zbi rfl rfl) rfl
theorem zf0 (t:List Int) (kind step:Int) (hs:1≤step∧step≤50):∀(i k:Nat) (a:Int) (acc:List Int),acc.Pairwise (· < ·)→(∀x∈acc,x<a∧I64 x)→I64 a→(tms t kind step i k a acc).1.Pairwise (· < ·)∧∀x∈(tms t kind step i k a acc).1,I64 x
 |0,k,a,acc,h1,h2,h3=>by rw[tms];exact⟨h1,fun x hx=>(h2 x hx).2⟩
 |i+1,k,a,acc,h1,h2,h3=>by
  have hd:=zb6 t kind step k hs
  have hp:(acc++[a]).Pairwise (· < ·):=List.pairwise_append.2 ⟨h1,by simp,fun x hx y hy=>by simp at hy;subst hy;exact(h2 x hx).1⟩
  have hr:∀x∈acc++[a],I64 x:=fun x hx=>by
   rcases List.mem_append.1 hx with h|h
   ·exact(h2 x h).2
   ·simp at h;subst h;exact h3
  rw[tms]
  split
  ·exact⟨hp,hr⟩
  ·rename_i hov
   have h4:I64 (a+(tmD t kind step k).1):=by unfold I64 at *;omega
   refine zf0 t kind step hs i _ _ _ hp (fun x hx=>⟨?_,hr x hx⟩) h4
   rcases List.mem_append.1 hx with h|h
   ·have :=(h2 x h).1;omega
   ·simp at h;omega
theorem zfY (t:List Int) (k n:Nat):(tmL t k n).1.Pairwise (· < ·)∧∀x∈(tmL t k n).1,I64 x:=by
 have h50:=zat t (itv t (adv t k)).2 (show(1:Int)≤50 by omega)
 exact zf0 t _ _ (by omega) _ _ _ [] (by simp) (by simp) (zb0 t (adv t k))
theorem ziQ (x:Int):I64 (IntKind.i64.wrap x):=by unfold I64;rw[i64w];omega
theorem zkI (t:List Int) (kind slope:Int) (i:Nat) (v:Int) (k:Nat) (h:I64 v):I64 (smX t kind slope i v k).1∧I64 (smX t kind slope i v k).2.1:=by
 unfold smX
 (repeat' split)<;>exact⟨by first|exact ziQ _|exact zb0 _ _|exact h,by first|exact h|exact ziQ _⟩
theorem zkK (t:List Int) (kind slope:Int) (ts:List Int):∀(j i:Nat) (v:Int) (k:Nat) (acc:List (Int×Int)),i+j=ts.length→(sms t kind slope ts j i v k acc).1.map Prod.fst=acc.map Prod.fst++ts.drop i
 |0,i,v,k,acc,h=>by rw[sms,List.drop_eq_nil_of_le (by omega),List.append_nil]
 |j+1,i,v,k,acc,h=>by
  rw[sms,zkK t kind slope ts j (i+1) _ _ _ (by omega),List.map_append,List.append_assoc]
  congr 1
  rw[List.drop_eq_getElem_cons (show i<ts.length by omega)]
  simp[show i<ts.length by omega]
theorem zkN (t:List Int) (kind slope:Int) (ts:List Int):∀(j i:Nat) (v:Int) (k:Nat) (acc:List (Int×Int)),I64 v→(∀s∈acc,I64 s.2)→∀s∈(sms t kind slope ts j i v k acc).1,I64 s.2
 |0,i,v,k,acc,h,h2=>by rw[sms];exact h2
 |j+1,i,v,k,acc,h,h2=>by
  rw[sms]
  have hx:=zkI t kind slope i v k h
  refine zkN t kind slope ts j (i+1) _ _ _ hx.2 fun s hs=>?_
  rcases List.mem_append.1 hs with h3|h3
  ·exact h2 s h3
  ·simp at h3;subst h3;exact hx.1
theorem zgD (t:List Int) (k n:Nat):(smpL t k n).1.map Prod.fst=(tmL t k n).1:=by
 unfold smpL;rw[zkK _ _ _ _ _ _ _ _ _ (by omega)];simp
theorem zme (t:List Int) (k n:Nat):(smpL t k n).1.length≤n:=by
 have :=congrArg List.length (zgD t k n)
 rw[List.length_map]at this
 rw[this];exact zkW t k n
theorem zlE {α:Type} (l:List α) (i:Nat) (d:α) (h:i<l.length):l.getD i d∈l:=by
 have :l.getD i d=l[i]:=by simp[h]
 rw[this];exact List.getElem_mem h
theorem zmf (t:List Int) (k n:Nat):Smp (smpL t k n).1:=by
 intro i hi
 have hm:=zlE _ i ((0:Int),(0:Int)) hi
 constructor
 ·have h1:((smpL t k n).1.getD i (0,0)).1∈(smpL t k n).1.map Prod.fst:=List.mem_map_of_mem hm
  rw[zgD]at h1
  exact(zfY t k n).2 _ h1
 ·exact zkN t _ _ _ _ _ _ _ [] (zb0 t _) (by simp) _ hm
end Go.Proofs.YthiioppfnmcclaaGreat
namespace Go.Proofs.YthiioppfnmcclaaGreat
open Go.RowKit Go.Ab Go.Wd
def tolv (l:List Int) (k:Nat):Int×Nat:=
 if nx l k 8=0 then(0,adv l k)
 else if nx l k 8=1 then(4611686018427387904-nx l (adv l k) 2,adv l (adv l k))
 else if nx l k 8=2 then(IntKind.i64.wrap ((wds l (adv l k) 4).1.fdiv (2^min (2+nx l (wds l (adv l k) 4).2 60).toNat (IntKind.bits .u64))),adv l (wds l (adv l k) 4).2)
 else(nx l (adv l k) 30,adv l (adv l k))
theorem zhn (l:List Int) (k:Nat) (hl:Ints l) (hn:l.length≤140737488351232):zam Tryz.prog 7 [.pt 0 0] [tb l k] (.r (.v (.int .i64 (tolv l k).1))) [some (tb l (tolv l k).2)]:=by
 refine zaA Tryz.func7 rfl (Nat.le_of_ble_eq_true rfl) rfl rfl ?_
 have h8:=zat l k (show(1:Int)≤8 by omega)
 have h2:=zat l (adv l k) (show(1:Int)≤2 by omega)
 have h30:=zat l (adv l k) (show(1:Int)≤30 by omega)
 have h60:=zat l (wds l (adv l k) 4).2 (show(1:Int)≤60 by omega)
 (repeat' (first|refine zad ?_|(refine is_f 13 ?_;refine zbb (zaS l k 8 hl hn (by omega)) ?_)|(refine is_f 13 ?_;refine zbb (zaS l (adv l k) 2 hl hn (by omega)) ?_)|(refine is_f 13 ?_;refine zbb (zaS l (adv l k) 30 hl hn (by omega)) ?_)|(refine is_f 13 ?_;refine zbb (zaS l (wds l (adv l k) 4).2 60 hl hn (by omega)) ?_)|(refine is_f 18 ?_;refine zbb (zf5 l (adv l k) hl hn) ?_)|(refine zac (fun hb=>?_) (fun hb=>?_)<;>(try(exfalso;omega)))|fail))
 all_goals (unfold tolv;(repeat' split)<;>(try(exfalso;omega))<;>exact zcL [] (.int rfl) rfl rfl (zcQ rfl rfl) rfl)
theorem zlb (l:List Int) (k:Nat):∀j,0≤(wds l k j).1∧(wds l k j).1<18446744073709551616
 |0=>by unfold wds;exact⟨Int.le_refl _,by show(0:Int)<_;decide⟩
 |j+1=>by
  unfold wds
  simp only[IntKind.wrap_u64]
  omega
theorem zf1 (l:List Int) (k:Nat):0≤(tolv l k).1∧(tolv l k).1≤4611686018427387904:=by
 have h2:=zat l (adv l k) (show(1:Int)≤2 by omega)
 have h30:=zat l (adv l k) (show(1:Int)≤30 by omega)
 have h60:=zat l (wds l (adv l k) 4).2 (show(1:Int)≤60 by omega)
 have hw:=zlb l (adv l k) 4
 unfold tolv
 (repeat' split)
 ·simp only;omega
 ·simp only;omega
 ·simp only
  generalize(wds l (adv l k) 4).1=x at *
  generalize nx l (wds l (adv l k) 4).2 60=s at *
  obtain⟨y,rfl⟩:=Int.eq_ofNat_of_zero_le hw.1
  obtain⟨e,he⟩:∃e:Nat,min (2+s).toNat (IntKind.bits .u64)=2+e:=⟨s.toNat,by simp[IntKind.bits];omega⟩
  rw[he]
  have h1:(y:Int).fdiv (2^(2+e))=((y/2^(2+e):Nat):Int):=by
   rw[Int.fdiv_eq_ediv_of_nonneg _ (Int.pow_nonneg (by omega))]
   push_cast
   rfl
  have h3:y/2^(2+e)≤y/4:=by
   rw[Nat.pow_add,←Nat.div_div_eq_div_mul]
   exact Nat.div_le_self _ _
  rw[h1]
  generalize y/2^(2+e)=d at *
  rw[IntWalk.i64_in _ (by omega)]
  omega
 ·simp only;omega
theorem zo0 {post:List (Option Blk)} {P:Program} {L:Ln} {fn:Func} {S:St} {a b c x z:AV} {cs:List AV} {t1 p t3 ty i n:Nat} {T:TypeId} {F1 F2 F3:List Nat} [hT:AgT P ty n] (G:List Nat) (h1:Rt (getH S.H) L.n G x a F1) (h2:Rt (getH S.H) L.n G (.ag cs) b F2) (h3:Rt (getH S.H) L.n G z c F3) (hres:fn.results= #[.tmp t1,.cell p ty,.tmp t3])
  (g1:get S.env t1=x) (hp:get S.env p= .pt i 0) (hi:getH S.H i=some (.var T cs)) (hl:cs.length=n) (g3:get S.env t3=z) (hpo:∀i b,(i,some b)∈zaM 0 post→getH S.H i=some b∧b.ids=[]) (hn:zbl L (F1++(F2++(F3++[]))) G=true):(Exit.ret= .normal∨Exit.ret= .ret)∧zeF P L fn S (.tu [a,b,c]) post:=by
 obtain⟨e,k1,k2⟩:=hT.und
 refine⟨.inr rfl,⟨⟨.tu [x,.ag cs,z],_,G,.three _ _ _ _ _ _ hres (.tmp _ _ g1) (.agg _ _ _ _ _ _ hp hi k1 k2 ?_) (.tmp _ _ g3),.tu _ _ _ (.cons _ _ _ _ _ _ h1 (.cons _ _ _ _ _ _ h2 (.cons _ _ _ _ _ _ h3 .nil))),hn⟩,hpo⟩⟩
 rw[hT.size,hl]
theorem ziY (b:List UInt8) (L:List (Int×Int)) (n x1 x2 x3 x4 x5:Int) (cD:zam Tryz.prog 25 [.r (.sl 1 (bys b))] [] (.tu [.fr 48 2 (smps L),.ag [.r (.v (.int .i64 x1)),.r (.v (.int .i64 x2)),.r (.v (.int .i64 x3)),.r (.v (.int .i64 x4)),.r (.v (.int .i64 x5))],.r (.v (.int .i64 n)),.r (.v (.int .i64 0))]) []):
  zam Tryz.prog 14 [.r (.sl 1 (bys b))] [] (.tu [.fr 48 2 (smps L),.ag [.r (.v (.int .i64 x1)),.r (.v (.int .i64 x2)),.r (.v (.int .i64 x3)),.r (.v (.int .i64 x4)),.r (.v (.int .i64 x5))],.r (.v (.int .i64 0))]) []:=by
 refine zaA Tryz.func14 rfl (Nat.le_of_ble_eq_true rfl) rfl rfl ?_
 (repeat' (first|refine zad ?_|(refine is_f 25 ?_;refine zag (cD) ?_)|(refine zac (fun hb=>?_) (fun hb=>?_)<;>(try(exfalso;omega)))|fail))
 all_goals (first|(exfalso;omega)|exact zo0 [] (.fr 1 _ _ _ rfl) (Rt.ag5 rfl rfl rfl rfl rfl) (.int rfl) rfl rfl rfl rfl rfl rfl (zbp rfl) rfl)
def rsS (a b:List UInt8) (i:Nat):St:=⟨[(0,.r (.sl 1 (bys a))),(1,.r (.sl 1 (bys b))),(5,.r (.v (.int .i64 (i:Int))))],[],0⟩
theorem zl0 (a b:List UInt8) (ha:a.length≤140737488355328) (r:Bool) (hr:r=decide (a=b)):zam Tryz.prog 15 [.r (.sl 1 (bys a)),.r (.sl 1 (bys b))] [] (.r (.v (.bool r))) []:=by
 have h1:=zas a
 have h2:=zas b
 refine zaA Tryz.func15 rfl (Nat.le_of_ble_eq_true rfl) rfl rfl ?_
 by_cases hl:a.length=b.length
 ·(repeat' (first|refine zad ?_|(refine zac (fun hb=>?_) (fun hb=>?_)<;>(try(exfalso;omega)))|fail))
  all_goals (first|(exfalso;omega)|skip)
  refine zap (rsS a b) (fun i=>i≤a.length∧∀j,j<i→(a.getD j 0).toNat=(b.getD j 0).toNat) (fun i=>a.length-i) 0 ⟨Nat.zero_le _,fun j hj=>absurd hj (Nat.not_lt_zero _)⟩ (by(refine Le.mk [] [] zaj zal zan zah)) fun i hi=>?_
  obtain⟨hi1,hi2⟩:=hi
  change awp _ _ _ _ _ (rsS a b i)
  rcases Nat.lt_or_ge i a.length with hi|hi
  ·have hn:=zaE i (by omega)
   have g1:=zbw (l:=a) hi
   have g2:=zbw (l:=b) (j:=i) (by omega)
   by_cases he:(a.getD i 0).toNat=(b.getD i 0).toNat
   ·(repeat' (first|refine zad ?_|(refine zac (fun hb=>?_) (fun hb=>?_)<;>(try(exfalso;omega)))|fail))
    all_goals (first|(exfalso;omega)|exact⟨i+1,⟨hi,fun j hj=>by
     rcases Nat.lt_or_ge j i with h|h
     ·exact hi2 j h
     ·rw[show j=i by omega];exact he⟩,by show Le _ _ (rsS a b (i+1));(refine Le.mk [] [] zaj zal zan zah),by show a.length-(i+1)<a.length-i;omega⟩)
   ·have hr2:r=false:=by rw[hr];exact decide_eq_false fun e=>he (by rw[e])
    subst hr2
    (repeat' (first|refine zad ?_|(refine zac (fun hb=>?_) (fun hb=>?_)<;>(try(exfalso;omega)))|fail))
    all_goals (first|(exfalso;omega)|exact ret1 [] (.bool rfl) rfl rfl rfl)
  ·have hr2:r=true:=by rw[hr];exact decide_eq_true (zgR hl fun j hj=>hi2 j (by omega))
   subst hr2
   (repeat' (first|refine zad ?_|(refine zac (fun hb=>?_) (fun hb=>?_)<;>(try(exfalso;omega)))|fail))
   all_goals (first|(exfalso;omega)|exact ret1 [] (.bool rfl) rfl rfl rfl)
 ·have hr2:r=false:=by rw[hr];exact decide_eq_false fun e=>hl (by rw[e])
  subst hr2
  (repeat' (first|refine zad ?_|(refine zac (fun hb=>?_) (fun hb=>?_)<;>(try(exfalso;omega)))|fail))
  all_goals (first|(exfalso;omega)|exact ret1 [] (.bool rfl) rfl rfl rfl)
def k26:List UInt8:=[0,0,1,10,10,0,0,0,14]
theorem zmA:ch0E [(5,7)]=k26:=by decide+kernel
theorem zj7:zam Tryz.prog 10 [] [] (.r (.v (.bool true))) []:=by
 have hasc:Asc ([(5,7)].map Prod.fst):=by simp[Asc]
 have h5:∀v∈([(5,7)]:List (Int×Int)).map Prod.fst,In64 v:=by simp[In64]
 have h7:∀v∈([(5,7)]:List (Int×Int)).map Prod.snd,In64 v:=by simp[In64]
 have cE:=zlm [(5,7)] 9 (by omega) (by simp) (by simp) h7 h5 hasc
 rw[zmA]at cE
 have cE:zam Tryz.prog 8 [.r (.sl 2 [[.v (.int .i64 5),.v (.int .i64 7)]]),.r (.v (.int .i64 0)),.r (.v (.int .i64 9))] [] (.tu [.fr 5 1 (bys k26),.r (.v (.int .i64 0))]) []:=cE
 have cD:=zll [5] [7] rfl h7 (by simp) (by simp) h5 hasc k26 zmA.symm _ rfl
 have cD:zam Tryz.prog 14 [.r (.sl 1 (bys k26))] [] (.tu [.fr 48 2 [[.v (.int .i64 5),.v (.int .i64 7)]],.ag [.r (.v (.int .i64 0)),.r (.v (.int .i64 0)),.r (.v (.int .i64 1)),.r (.v (.int .i64 5)),.r (.v (.int .i64 5))],.r (.v (.int .i64 0))]) []:=ziY k26 _ _ _ _ _ _ _ cD
 have cS:zam Tryz.prog 15 [.r (.sl 1 (bys k26)),.r (.sl 1 [[.v (.int .u8 0)],[.v (.int .u8 0)],[.v (.int .u8 1)],[.v (.int .u8 10)],[.v (.int .u8 10)],[.v (.int .u8 0)],[.v (.int .u8 0)],[.v (.int .u8 0)],[.v (.int .u8 14)]])] [] (.r (.v (.bool true))) []:=zl0 k26 k26 (by decide) true (by simp)
 generalize k26=b at *
 have hl1:([[.v (.int .i64 5),.v (.int .i64 7)]]:List (List RV)).length=1:=rfl
 refine zaA Tryz.func10 rfl (Nat.le_of_ble_eq_true rfl) rfl rfl ?_
 (repeat' (first|(first|refine zeJ 2 ?_|refine zdI 2 ?_)|refine zeT ?_|refine zeV ?_|(refine is_f 8 ?_;refine zbH (cE) ?_)|(refine zac (fun hb=>?_) (fun hb=>?_)<;>(try(exfalso;omega)))|fail))
 refine halt ?_
 refine zjA (T:=⟨[(1,.r (.sl 1 (bys b))),(2,.r (.v (.int .i64 0)))],[],0⟩) (by(refine Le.mk [] [1] zaj zal zan zah)) ?_
 (repeat' (first|(refine zak rfl (by first|exact .inl ⟨rfl,rfl⟩|exact zdH rfl rfl rfl rfl) (zaB [_,_,_,_,_,_,_,_,_] (es:=[_,_,_,_,_,_,_,_,_]) rfl rfl rfl rfl rfl) rfl ?_;try dsimp only[List.reverse,List.reverseAux])|refine zad ?_|(refine is_f 14 ?_;refine zag (cD) ?_)|(refine is_f 15 ?_;refine zd2 (cS) ?_)|(refine zac (fun hb=>?_) (fun hb=>?_)<;>(try(exfalso;omega)))|fail))
 all_goals (first|(exfalso;omega)|exact absurd hl1 (by omega)|exact ret1 [] (.bool rfl) rfl rfl rfl)
theorem ziH:∀M:List (Int×Int),sumC M=(M.map Prod.fst).sum
 |[]=>rfl
 |x::M=>by rw[sumC,List.map_cons,List.sum_cons,ziH M]
theorem zhB (e:Int) (l:List Int) (h1:1≤l.length) (hl:l.length≤4096):CsOk (mrA midv e l)∧((mrA midv e l).map Prod.fst).sum=l.length∧(mrA midv e l).length≤l.length∧1≤(mrA midv e l).length:=by
 obtain⟨g1,g2,g3⟩:=zhS midv e l 0 0 0
 change sumC (mrA midv e l)=_ at g1
 change(mrA midv e l).length≤_ at g2
 change ∀x∈mrA midv e l,_ at g3
 rw[ziH]at g1
 have hs:((mrA midv e l).map Prod.fst).sum=l.length:=by rw[g1];simp
 refine⟨⟨fun x hx=>?_,by omega,by omega,fun v hv=>?_⟩,hs,by omega,?_⟩
 ·obtain⟨y,hy,rfl⟩:=List.mem_map.1 hx
  exact(g3 y hy).1
 ·obtain⟨y,hy,rfl⟩:=List.mem_map.1 hv
  obtain⟨p,q,e⟩:=(g3 y hy).2
  rw[e];exact znc p q
 ·rcases Nat.eq_zero_or_pos (mrA midv e l).length with h|h
  ·rw[List.eq_nil_of_length_eq_zero h]at hs
   simp at hs;omega
  ·exact h
def somL (t:List Int) (k:Nat):List (Int×Int)×Nat:=if(smpL t k 30).1.length=0 then([((itv t (smpL t k 30).2).1,(itv t (itv t (smpL t k 30).2).2).1)],(itv t (itv t (smpL t k 30).2).2).2)else smpL t k 30
theorem zmg (t:List Int) (k:Nat) (ht:Ints t) (htn:t.length≤140737488351232):zam Tryz.prog 6 [.pt 0 0,.r (.v (.int .i64 30))] [tb t k] (.fr 48 2 (smps (somL t k).1)) [some (tb t (somL t k).2)]:=by
 have cS:=zkF t k 30 ht htn (by omega)
 have hsl:=zbQ (smpL t k 30).1
 unfold somL
 generalize smpL t k 30=z at *
 obtain⟨L,k1⟩:=z
 dsimp only at *
 have c1:=zj6 t k1 ht htn
 have c2:=zj6 t (itv t k1).2 ht htn
 refine zaA Tryz.func6 rfl (Nat.le_of_ble_eq_true rfl) rfl rfl ?_
 by_cases h0:L.length=0
 ·rw[if_pos h0]
  (repeat' (first|refine zad ?_|(refine is_f 16 ?_;refine zbb (cS) ?_)|(refine is_f 17 ?_;refine zbb (c1) ?_)|(refine is_f 17 ?_;refine zbb (c2) ?_)|(refine zac (fun hb=>?_) (fun hb=>?_)<;>(try(exfalso;omega)))|fail))
  all_goals (first|(exfalso;omega)|exact zcL [] (.fr 2 _ _ _ rfl) rfl rfl (zcQ rfl rfl) rfl)
 ·rw[if_neg h0]
  (repeat' (first|refine zad ?_|(refine is_f 16 ?_;refine zbb (cS) ?_)|(refine zac (fun hb=>?_) (fun hb=>?_)<;>(try(exfalso;omega)))|fail))
  all_goals (first|(exfalso;omega)|exact zcL [] (.fr 1 _ _ _ rfl) rfl rfl (zcQ rfl rfl) rfl)
theorem znN (t:List Int) (k:Nat):1≤(somL t k).1.length∧(somL t k).1.length≤30∧(∀v∈(somL t k).1.map Prod.fst,In64 v)∧(∀v∈(somL t k).1.map Prod.snd,In64 v)∧Asc ((somL t k).1.map Prod.fst):=by
 have hI:=zmf t k 30
 have hl:=zme t k 30
 have hs:=zfY t k 30
 rw[←zgD]at hs
 have i1:=zb0 t (smpL t k 30).2
 have i2:=zb0 t (itv t (smpL t k 30).2).2
 unfold somL
 split
 ·refine⟨by simp,by simp,fun v hv=>?_,fun v hv=>?_,by simp[Asc]⟩
  ·simp at hv;subst hv;exact i1
  ·simp at hv;subst hv;exact i2
 ·refine⟨by omega,hl,hs.2,fun v hv=>?_,hs.1⟩
  obtain⟨s,hs2,rfl⟩:=List.mem_map.1 hv
  obtain⟨i,hi,rfl⟩:=List.getElem_of_mem hs2
  have :=(hI i hi).2
  rwa [List.getD_eq_getElem?_getD,List.getElem?_eq_getElem hi]at this
theorem zfh (l:List (Int×Int)) (i:Nat) (h:i<l.length):(l.map Prod.fst).getD i 0=(l.getD i (0,0)).1:=by
 rw[List.getD_eq_getElem?_getD,List.getElem?_map,List.getElem?_eq_getElem h,List.getD_eq_getElem?_getD,List.getElem?_eq_getElem h];rfl
theorem zkG (l:List (Int×Int)) (e:Nat) (he:e≤4611686018427387904) (h1:1≤l.length) (hl:l.length≤4096) (ht:∀v∈l.map Prod.fst,In64 v) (ha:Asc (l.map Prod.fst)):
  zam Tryz.prog 9 [.r (.sl 1 (bys (chE e l (mrA midv e (l.map Prod.snd)))))] [] (.tu [.r (.v (.int .i64 ((mrA midv e (l.map Prod.snd)).length:Int))),.r (.v (.int .i64 0))]) []:=by
 obtain⟨h,hs,hM,_⟩:=zhB e (l.map Prod.snd) (by rw[List.length_map];exact h1) (by rw[List.length_map];exact hl)
 rw[List.length_map]at hs hM
 have hml:(l.map Prod.fst).length=l.length:=List.length_map _
 refine zoz _ _ _ [] _ _ _ _ _ (zmY e (l.map Prod.fst) _ he (by omega) (by omega) ht ha h (by rw[hml];exact hs) (by omega) _ ?_ _ rfl)
 unfold chE
 rw[hml,zfh l 0 (by omega),zfh l (l.length-1) (by omega)]
theorem zgT (t:List Int) (ht:Ints t) (htn:t.length≤140737488351232):zam Tryz.prog 3 [.r (.sl 1 (nums .i64 t))] [] (.r (.v (.bool true))) []:=by
 refine zaA Tryz.func3 rfl (Nat.le_of_ble_eq_true rfl) rfl rfl ?_
 have cS:=zmg t 0 ht htn
 obtain⟨s1,s2,s3,s4,s5⟩:=znN t 0
 generalize(somL t 0).1=l at *
 generalize(somL t 0).2=k1 at *
 have cT1:=zhn t k1 ht htn
 have r1:=zf1 t k1
 generalize(tolv t k1).1=a at *
 generalize(tolv t k1).2=k2 at *
 have cT2:=zhn t k2 ht htn
 have r2:=zf1 t k2
 generalize(tolv t k2).1=b at *
 generalize(tolv t k2).2=k3 at *
 (repeat' (first|(first|refine zeJ 3 ?_|refine zdI 3 ?_)|refine zeT ?_|refine zeV ?_|(refine is_f 5 ?_;refine zl4 (zoU t) ?_)|(refine is_f 6 ?_;refine zbb (cS) ?_)|(refine is_f 7 ?_;refine zbb (cT1) ?_)|(refine is_f 7 ?_;refine zbb (cT2) ?_)|(refine zac (fun hb=>?_) (fun hb=>?_)<;>(try(exfalso;omega)))|fail))
 refine halt ?_
 refine zjA (T:=⟨[(4,.r (.sl 2 (smps l))),(5,.r (.v (.int .i64 a))),(6,.r (.v (.int .i64 b)))],[],0⟩) (by(refine Le.mk [] [1] zaj zal zan zah)) ?_
 clear cS cT1 cT2
 obtain⟨mn,hmn⟩:∃mn:Nat,(if b<a then b else a)=(mn:Int):=⟨(if b<a then b else a).toNat,by split <;>omega⟩
 obtain⟨mx,hmx⟩:∃mx:Nat,(if a<b then b else a)=(mx:Int):=⟨(if a<b then b else a).toNat,by split <;>omega⟩
 have hmm:(mn:Int)≤mx∧(mx:Int)≤4611686018427387904:=by
  have :=hmn.symm
  have :=hmx.symm
  split at hmn<;>split at hmx<;>omega
 have e1:=zhB mn (l.map Prod.snd) (by rw[List.length_map];exact s1) (by rw[List.length_map];omega)
 have e2:=zhB mx (l.map Prod.snd) (by rw[List.length_map];exact s1) (by rw[List.length_map];omega)
 have cE1:=(zjK l mn (by omega) s1 (by omega) _ rfl s4 s3 s5 e1.1).freeze2
 have cE2:=(zjK l mx (by omega) s1 (by omega) _ rfl s4 s3 s5 e2.1).freeze2
 have cG1:=zkG l mn (by omega) s1 (by omega) s3 s5
 have cG2:=zkG l mx (by omega) s1 (by omega) s3 s5
 have hmono:=zlI midv (by omega) hmm.1 (l.map Prod.snd)
 have l1:=e1.2.2.1
 have l2:=e2.2.2.2
 rw[List.length_map]at l1
 have hsl:=zbQ l
 clear e1 e2 s3 s4 s5
 generalize chE mn l (mrA midv mn (l.map Prod.snd))=B1 at *
 generalize chE mx l (mrA midv mx (l.map Prod.snd))=B2 at *
 generalize(mrA midv mn (l.map Prod.snd)).length=n1 at *
 generalize(mrA midv mx (l.map Prod.snd)).length=n2 at *
 (repeat' (first|refine zad ?_|(refine is_f 8 ?_;refine zag (cE1) ?_)|(refine is_f 8 ?_;refine zag (cE2) ?_)|(refine is_f 9 ?_;refine zag (cG1) ?_)|(refine is_f 9 ?_;refine zag (cG2) ?_)|(refine is_f 10 ?_;refine zag (zj7) ?_)|(refine zac (fun hb=>?_) (fun hb=>?_)<;>(try(exfalso;omega)))|fail))
 all_goals (first|(exfalso;omega)|exact ret1 [] (.bool rfl) rfl rfl rfl)
end Go.Proofs.YthiioppfnmcclaaGreat
