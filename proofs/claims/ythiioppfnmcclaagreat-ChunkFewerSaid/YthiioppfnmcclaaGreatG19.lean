/- Texts of the second layer in one: Nm3 Rs4 Rc5 Wg7 Eq1 Eq2 Md1. -/
import Derived.Test.YthiioppfnmcclaaGreatG18
import Derived.Test.YthiioppfnmcclaaGreatG8
import Derived.Test.YthiioppfnmcclaaGreatG13
import Derived.Test.YthiioppfnmcclaaGreatG12
set_option maxHeartbeats 4000000
set_option maxRecDepth 100000
set_option linter.unusedVariables false
set_option linter.unusedSimpArgs false
namespace Go.Proofs.YthiioppfnmcclaaGreat
open Go.RowKit Go.Ab Go.Wd
def sqS (a b:List UInt8) (i:Nat):St:=⟨[(0,.r (.sl 1 (bys a))),(1,.r (.sl 1 (bys b))),(12,.r (.v (.int .i64 (a.length:Int)))),(13,.r (.v (.int .i64 (i:Int))))],[],0⟩
theorem zgR {a b:List UInt8} (hl:a.length=b.length) (h:∀j,j<a.length→(a.getD j 0).toNat=(b.getD j 0).toNat):a=b:=by
 apply List.ext_getElem hl
 intro i h1 h2
 have :=h i h1
 rw[List.getD_eq_getElem?_getD,List.getElem?_eq_getElem h1,List.getD_eq_getElem?_getD,List.getElem?_eq_getElem h2]at this
 exact UInt8.toNat_inj.1 this
theorem zig (a b:List UInt8) (ha:a.length≤140737488355328) (r:Bool) (hr:r=decide (a=b)):zam Tryz.prog 104 [.r (.sl 1 (bys a)),.r (.sl 1 (bys b))] [] (.r (.v (.bool r))) []:=by
 have h1:=zas a
 have h2:=zas b
 refine zaA Tryz.func104 rfl (Nat.le_of_ble_eq_true rfl) rfl rfl ?_
 by_cases hl:a.length=b.length
 ·have e0:((bys a).length:Int)=(a.length:Int):=by rw[h1]
  (repeat' (first|refine zad ?_|(refine zac (fun hb=>?_) (fun hb=>?_)<;>(try(exfalso;omega)))|fail))
  all_goals (first|(exfalso;omega)|skip)
  refine zap (sqS a b) (fun i=>i≤a.length∧∀j,j<i→(a.getD j 0).toNat=(b.getD j 0).toNat) (fun i=>a.length-i) 0 ⟨Nat.zero_le _,fun j hj=>absurd hj (Nat.not_lt_zero _)⟩ (by(refine Le.mk [] [] zaj zal zan zah)) fun i hi=>?_
  obtain⟨hi1,hi2⟩:=hi
  change awp _ _ _ _ _ (sqS a b i)
  rcases Nat.lt_or_ge i a.length with hi|hi
  ·have hn:=zaE i (by omega)
   have g1:=zbw (l:=a) hi
   have g2:=zbw (l:=b) (j:=i) (by omega)
   by_cases he:(a.getD i 0).toNat=(b.getD i 0).toNat
   ·(repeat' (first|refine zad ?_|(refine zac (fun hb=>?_) (fun hb=>?_)<;>(try(exfalso;omega)))|fail))
    all_goals (first|(exfalso;omega)|exact⟨i+1,⟨hi,fun j hj=>by
     rcases Nat.lt_or_ge j i with h|h
     ·exact hi2 j h
     ·rw[show j=i by omega];exact he⟩,by show Le _ _ (sqS a b (i+1));(refine Le.mk [] [] zaj zal zan zah),by show a.length-(i+1)<a.length-i;omega⟩)
   ·have hr2:r=false:=by rw[hr];exact decide_eq_false fun e=>he (by rw[e])
    subst hr2
    (repeat' (first|refine zad ?_|(refine zac (fun hb=>?_) (fun hb=>?_)<;>(try(exfalso;omega)))|fail))
    all_goals (first|(exfalso;omega)|exact ret1 [] (.bool rfl) rfl rfl rfl)
  ·have hr2:r=true:=by rw[hr];exact decide_eq_true (zgR hl fun j hj=>hi2 j (by omega))
   subst hr2
   (repeat' (first|refine zad ?_|(refine zac (fun hb=>?_) (fun hb=>?_)<;>(try(exfalso;omega)))|fail))
   all_goals (first|(exfalso;omega)|exact ret1 [] (.bool rfl) rfl rfl rfl)
 ·have hr2:r=false:=by rw[hr];exact decide_eq_false fun e=>hl (by rw[e])
  subst hr2
  (repeat' (first|refine zad ?_|(refine zac (fun hb=>?_) (fun hb=>?_)<;>(try(exfalso;omega)))|fail))
  all_goals (first|(exfalso;omega)|exact ret1 [] (.bool rfl) rfl rfl rfl)
theorem zjI (b:List UInt8) (a e:Nat):((bys b).drop a).take (e-a)=bys ((b.drop a).take (e-a)):=by unfold bys;rw[List.map_take,List.map_drop]
theorem zfi (b:List UInt8) (n a:Nat) (hb:b.length≤140737488355328) (hn:n≤65536) (ha:a≤b.length) (x:AV) (hx:NrR (decN b a n) x):zam Tryz.prog 67 [.r (.sl 1 (bys b)),.r (.v (.int .i64 (a:Int))),.r (.v (.int .i64 (n:Int)))] [] x []:=by
 have hbl:=zas b
 refine zaA Tryz.func67 rfl (Nat.le_of_ble_eq_true rfl) rfl rfl ?_
 rcases zi1 b n a ha with⟨h1,e⟩|⟨h1,hc⟩
 ·rw[e]at hx
  rcases hx with⟨h0,_⟩|⟨_,rfl⟩
  ·cases h0
  ·(repeat' (first|refine zad ?_|(refine zac (fun hb=>?_) (fun hb=>?_)<;>(try(exfalso;omega)))|fail))
   all_goals (first|(exfalso;omega)|exact ret3 [] (.r _) (.int rfl) (.int rfl) rfl rfl rfl rfl rfl)
 ·have hget:=zbw (l:=b) (j:=a) h1
  rcases hc with⟨h2,e⟩|⟨h2,hc⟩
  ·rw[e]at hx
   rcases hx with⟨h0,_⟩|⟨_,rfl⟩
   ·cases h0
   ·(repeat' (first|refine zad ?_|(refine zac (fun hb=>?_) (fun hb=>?_)<;>(try(exfalso;omega)))|fail))
    all_goals (first|(exfalso;omega)|exact ret3 [] (.r _) (.int rfl) (.int rfl) rfl rfl rfl rfl rfl)
  ·have hinc:=zaE a (by omega)
   -- what the reader hands back,whichever it is
   have cR:∀y,NrR (rdE b a n) y→(((b.getD a 0).toNat=1∧zam Tryz.prog 103 [.r (.sl 1 (bys b)),.r (.v (.int .i64 ((a+1:Nat):Int))),.r (.v (.int .i64 (n:Int)))] [] y [])∨((b.getD a 0).toNat=0∧zam Tryz.prog 102 [.r (.sl 1 (bys b)),.r (.v (.int .i64 ((a+1:Nat):Int))),.r (.v (.int .i64 (n:Int)))] [] y [])):=by
    intro y hy
    unfold rdE at hy
    by_cases h:(b.getD a 0).toNat=1
    ·rw[if_pos h]at hy;exact .inl ⟨h,zkg b n (a+1) hb hn h1 y hy⟩
    ·rw[if_neg h]at hy;exact .inr ⟨by omega,zlJ b n (a+1) hb hn h1 y hy⟩
   rcases hc with⟨h3,e⟩|⟨h3,hc⟩
   ·rw[e]at hx
    have cR:=cR _ (.inr ⟨h3,rfl⟩)
    generalize(rdE b a n).2.2=er at *
    rcases hx with⟨h0,_⟩|⟨_,rfl⟩
    ·exact absurd h0 h3
    ·rcases cR with⟨h4,cR⟩|⟨h4,cR⟩
     ·(repeat' (first|refine zad ?_|((refine zdW ?_;refine zbt zbr [] _ _ (cR) za1 zbq zbF rfl rfl rfl zaa ?_);try dsimp only[AV.unfr,AV.unfrs,frsL,pairs,rdOf,@List.length_cons Blk,@List.length_nil Blk,@List.nil_append (Nat×Option Blk),@List.cons_append (Nat×Option Blk),@List.nil_append Blk,@List.cons_append Blk,Nat.add_zero,Nat.zero_add,Nat.reduceAdd])|(refine zac (fun hb=>?_) (fun hb=>?_)<;>(try(exfalso;omega)))|fail))
      all_goals (first|(exfalso;omega)|exact ret3 [] (.r _) (.int rfl) (.int rfl) rfl rfl rfl rfl rfl)
     ·(repeat' (first|refine zad ?_|((refine zdW ?_;refine zbt zbr [] _ _ (cR) za1 zbq zbF rfl rfl rfl zaa ?_);try dsimp only[AV.unfr,AV.unfrs,frsL,pairs,rdOf,@List.length_cons Blk,@List.length_nil Blk,@List.nil_append (Nat×Option Blk),@List.cons_append (Nat×Option Blk),@List.nil_append Blk,@List.cons_append Blk,Nat.add_zero,Nat.zero_add,Nat.reduceAdd])|(refine zac (fun hb=>?_) (fun hb=>?_)<;>(try(exfalso;omega)))|fail))
      all_goals (first|(exfalso;omega)|exact ret3 [] (.r _) (.int rfl) (.int rfl) rfl rfl rfl rfl rfl)
   ·have hok:=zot b n a h1 h3
    have cR:=cR _ (.inl ⟨h3,rfl⟩)
    have cE:=zdZ (rdE b a n).1 hok.words (by rw[hok.len];exact hn)
    have hel:=(zbg (rdE b a n).1).2
    rw[hok.len]at hel
    have hle:=hok.le
    have hfit:=hok.fits
    have hm:=zjI b a (rdE b a n).2.1
    have cQ:=fun r hr=>zig (encN (rdE b a n).1) ((b.drop a).take ((rdE b a n).2.1-a)) (by omega) r hr
    have hmx:∃(r:Bool),r=decide (encN (rdE b a n).1=(b.drop a).take ((rdE b a n).2.1-a))∧((r=true∧x= .tu [.fr 49 1 (wns (rdE b a n).1),.r (.v (.int .i64 (((rdE b a n).2.1:Nat):Int))),.r (.v (.int .i64 0))])∨(r=false∧x= .tu [.r (.v (.slice none 0 0)),.r (.v (.int .i64 0)),.r (.v (.int .i64 5))])):=by
     refine⟨_,rfl,?_⟩
     rcases hc with⟨h4,e⟩|⟨h4,e⟩
     ·rw[e]at hx
      rcases hx with⟨_,hx⟩|⟨h0,_⟩
      ·exact .inl ⟨decide_eq_true h4,hx⟩
      ·exact absurd h3 h0
     ·rw[e]at hx
      rcases hx with⟨h0,_⟩|⟨_,hx⟩
      ·cases h0
      ·exact .inr ⟨decide_eq_false h4,hx⟩
    obtain⟨r,hr,hx2⟩:=hmx
    have cQ:=cQ r hr
    clear hx hc hr hok
    generalize encN (rdE b a n).1=E at *
    generalize(rdE b a n).1=V at *
    generalize(rdE b a n).2.1=e at *
    rcases hx2 with⟨rfl,rfl⟩|⟨rfl,rfl⟩
    ·rcases cR with⟨h4,cR⟩|⟨h4,cR⟩
     ·(repeat' (first|refine zad ?_|((refine zdW ?_;refine zbt zbr [] _ _ (cR) za1 zbq zbF rfl rfl rfl zaa ?_);try dsimp only[AV.unfr,AV.unfrs,frsL,pairs,rdOf,@List.length_cons Blk,@List.length_nil Blk,@List.nil_append (Nat×Option Blk),@List.cons_append (Nat×Option Blk),@List.nil_append Blk,@List.cons_append Blk,Nat.add_zero,Nat.zero_add,Nat.reduceAdd])|(refine is_f 41 ?_;refine zbH (cE) ?_)|(refine is_f 104 ?_;refine zbI (cQ) ?_)|(refine zac (fun hb=>?_) (fun hb=>?_)<;>(try(exfalso;omega)))|fail))
      all_goals (first|(exfalso;omega)|exact ret3 [] (.fr 0 _ _ _ rfl) (.int rfl) (.int rfl) rfl rfl rfl rfl rfl)
     ·(repeat' (first|refine zad ?_|((refine zdW ?_;refine zbt zbr [] _ _ (cR) za1 zbq zbF rfl rfl rfl zaa ?_);try dsimp only[AV.unfr,AV.unfrs,frsL,pairs,rdOf,@List.length_cons Blk,@List.length_nil Blk,@List.nil_append (Nat×Option Blk),@List.cons_append (Nat×Option Blk),@List.nil_append Blk,@List.cons_append Blk,Nat.add_zero,Nat.zero_add,Nat.reduceAdd])|(refine is_f 41 ?_;refine zbH (cE) ?_)|(refine is_f 104 ?_;refine zbI (cQ) ?_)|(refine zac (fun hb=>?_) (fun hb=>?_)<;>(try(exfalso;omega)))|fail))
      all_goals (first|(exfalso;omega)|exact ret3 [] (.fr 0 _ _ _ rfl) (.int rfl) (.int rfl) rfl rfl rfl rfl rfl)
    ·rcases cR with⟨h4,cR⟩|⟨h4,cR⟩
     ·(repeat' (first|refine zad ?_|((refine zdW ?_;refine zbt zbr [] _ _ (cR) za1 zbq zbF rfl rfl rfl zaa ?_);try dsimp only[AV.unfr,AV.unfrs,frsL,pairs,rdOf,@List.length_cons Blk,@List.length_nil Blk,@List.nil_append (Nat×Option Blk),@List.cons_append (Nat×Option Blk),@List.nil_append Blk,@List.cons_append Blk,Nat.add_zero,Nat.zero_add,Nat.reduceAdd])|(refine is_f 41 ?_;refine zbH (cE) ?_)|(refine is_f 104 ?_;refine zbI (cQ) ?_)|(refine zac (fun hb=>?_) (fun hb=>?_)<;>(try(exfalso;omega)))|fail))
      all_goals (first|(exfalso;omega)|exact ret3 [] (.r _) (.int rfl) (.int rfl) rfl rfl rfl rfl rfl)
     ·(repeat' (first|refine zad ?_|((refine zdW ?_;refine zbt zbr [] _ _ (cR) za1 zbq zbF rfl rfl rfl zaa ?_);try dsimp only[AV.unfr,AV.unfrs,frsL,pairs,rdOf,@List.length_cons Blk,@List.length_nil Blk,@List.nil_append (Nat×Option Blk),@List.cons_append (Nat×Option Blk),@List.nil_append Blk,@List.cons_append Blk,Nat.add_zero,Nat.zero_add,Nat.reduceAdd])|(refine is_f 41 ?_;refine zbH (cE) ?_)|(refine is_f 104 ?_;refine zbI (cQ) ?_)|(refine zac (fun hb=>?_) (fun hb=>?_)<;>(try(exfalso;omega)))|fail))
      all_goals (first|(exfalso;omega)|exact ret3 [] (.r _) (.int rfl) (.int rfl) rfl rfl rfl rfl rfl)
def upZ (L:List Nat) (i:Nat):List Nat:=L.take i++List.replicate (L.length-i) 0
theorem zk4 {L:List Nat} {i:Nat} (h:i≤L.length):(upZ L i).length=L.length:=by unfold upZ;rw[List.length_append,List.length_take,List.length_replicate];omega
theorem zk5 {L:List Nat} {i:Nat} (h:i<L.length):(upZ L i).set i (L.getD i 0)=upZ L (i+1):=by
 unfold upZ
 rw[zaI L i 0 h,List.append_assoc,show L.length-i=(L.length-(i+1))+1 by omega,List.replicate_succ,List.set_append_right _ _ (by rw[List.length_take];omega),List.length_take,show i-min i L.length=0 by omega]
 rfl
theorem zk3 (L:List Nat):upZ L L.length=L:=by unfold upZ;rw[List.take_length,Nat.sub_self,List.replicate_zero,List.append_nil]
theorem zhu (L:List Nat):List.replicate L.length (List.map RV.v [Value.int .u64 0])=wns (upZ L 0):=by
 unfold upZ
 rw[List.take_zero,List.nil_append,Nat.sub_zero]
 unfold wns
 rw[List.map_replicate];rfl
def rzS (D:List Int) (i:Nat):St:=⟨[(7,.ow 1),(24,.ow 0),(25,.r (.v (.int .i64 (D.length:Int)))),(26,.r (.v (.int .i64 (i:Int))))],[(0,some (.row 2 1 (nums .i64 D))),(1,some (.row 49 1 (wns (upZ (D.map zz) i))))],2⟩
theorem zh2 (l:List Int) (o:Nat) (ho:o≤2) (h:∀v∈l,In64 v) (hl:l.length≤65536):zam Tryz.prog 194 [.r (.sl 1 (nums .i64 l)),.r (.v (.int .i64 (o:Int)))] [] (.tu [.fr 49 1 (wns ((zaO difs o l).map zz)),.r (.v (.bool true))]) []:=by
 have hlen:(nums .i64 l).length=l.length:=zao .i64 l
 have cC:=zlo l (by omega)
 have cR:=ziD 197 (by kernel_rfl) difs l o ho (fun i _=>zm0 _ (by rw[za7 difs zbG];omega))
 have hDl:(zaO difs o l).length=l.length:=za7 difs zbG o l
 have hin:=zcO (f:=difs) (fun l h=>zfb h) o l h
 generalize zaO difs o l=D at *
 have hnl:=zao .i64 D
 have h00:=zhu (D.map zz)
 rw[List.length_map,←hnl]at h00
 have h01:((nums .i64 D).length:Int)=(D.length:Int):=by rw[hnl]
 have hml:(D.map zz).length=D.length:=List.length_map _
 refine zaA Tryz.func194 rfl (Nat.le_of_ble_eq_true rfl) rfl rfl ?_
 (repeat' (first|refine zad ?_|(refine is_f 196 ?_;refine zag (cC) ?_)|(refine is_f 192 ?_;refine zbb (cR) ?_)|(refine zac (fun hb=>?_) (fun hb=>?_)<;>(try(exfalso;omega)))|fail))
 all_goals (first|(exfalso;omega)|skip)
 refine zap (rzS D) (fun i=>i≤D.length) (fun i=>D.length-i) 0 (Nat.zero_le _) (by show Le _ _ (rzS D 0);(refine Le.mk [(0,0),(1,1)] [] zaj zal zan zah)) fun i hi=>?_
 clear h00
 change awp _ _ _ _ _ (rzS D i)
 have hwl:(wns (upZ (D.map zz) i)).length=D.length:=by rw[zbu,zk4 (by omega),hml]
 rcases Nat.lt_or_ge i D.length with hi'|hi'
 ·have hE:(wns (upZ (D.map zz) i)).set i [.v (.int .u64 ((zz (D.getD i 0):Nat):Int))]=wns (upZ (D.map zz) (i+1)):=by
   have e:zz (D.getD i 0)=(D.map zz).getD i 0:=by
    rw[List.getD_eq_getElem?_getD,List.getD_eq_getElem?_getD,List.getElem?_map,List.getElem?_eq_getElem hi'];rfl
   rw[zle,e,zk5 (by omega)]
  have hgw:=zch (l:=upZ (D.map zz) i) (i:=i) (by rw[zbu]at hwl;omega)
  have cZ:=zgK (D.getD i 0) (zaY hin i)
  have hinc:=zaE i (by omega)
  unfold rzS
  (repeat' (first|refine zad ?_|(refine is_f 39 ?_;refine zag (cZ) ?_)|(refine zac (fun hb=>?_) (fun hb=>?_)<;>(try(exfalso;omega)))|fail))
  all_goals (first|(exfalso;omega)|exact⟨i+1,hi',by show Le _ _ (rzS D (i+1));(refine Le.mk [(0,0),(1,1)] [] zaj zal zan zah),by show D.length-(i+1)<D.length-i;omega⟩)
 ·obtain rfl:i=D.length:=by omega
  have e:upZ (D.map zz) D.length=D.map zz:=by rw[←hml];exact zk3 _
  unfold rzS
  rw[e]
  (repeat' (first|refine zad ?_|(refine zac (fun hb=>?_) (fun hb=>?_)<;>(try(exfalso;omega)))|fail))
  all_goals (first|(exfalso;omega)|exact ret2 [] (.fr 1 _ _ _ rfl) (.bool rfl) rfl rfl rfl rfl)
def bst (l:List Int):Nat→List UInt8
 |0=>res l 0
 |k+1=>shorter (bst l k) (res l (k+1))
theorem zkD (l:List Int) (o:Nat):1≤(res l o).length∧(res l o).length≤2+10*l.length:=by
 have :=zbg ((zaO difs o l).map zz)
 rw[List.length_map,za7 difs zbG]at this
 unfold res
 rw[List.length_cons];omega
theorem zjF (l:List Int):∀k,1≤(bst l k).length∧(bst l k).length≤2+10*l.length
 |0=>zkD l 0
 |k+1=>by
  rw[bst]
  rcases zeA (bst l k) (res l (k+1))with h|h<;>rw[h]
  ·exact zjF l k
  ·exact zkD l (k+1)
def reS (l:List Int):Nat→St
 |0=>⟨[(0,.r (.sl 1 (nums .i64 l))),(4,.r (.v (.slice none 0 0))),(10,.r (.v (.int .i64 0)))],[],0⟩
 |k+1=>⟨[(0,.r (.sl 1 (nums .i64 l))),(4,.ow 0),(10,.r (.v (.int .i64 ((k+1:Nat):Int))))],[(0,some (.row 5 1 (bys (bst l k))))],1⟩
theorem zgx (l:List Int) (h:∀v∈l,In64 v) (hl:l.length≤65536):zam Tryz.prog 190 [.r (.sl 1 (nums .i64 l))] [] (.tu [.fr 5 1 (bys (resE l)),.r (.v (.int .i64 0))]) []:=by
 have cR:=fun o (ho:o≤2)=>zh2 l o ho h hl
 have cN:=fun o (ho:o≤2)=>zdZ ((zaO difs o l).map zz) (zmP (zcO (f:=difs) (fun l h=>zfb h) o l h)) (by rw[List.length_map,za7 difs zbG];exact hl)
 have hel:=fun o:Nat=>zbg ((zaO difs o l).map zz)
 have hll:∀o:Nat,((zaO difs o l).map zz).length=l.length:=fun o=>by rw[List.length_map,za7 difs zbG]
 have hR:∀o:Nat,o≤2→([[.v (.int .u8 (o:Int))]]:List (List RV))++bys (encN ((zaO difs o l).map zz))=bys (res l o):=fun o ho=>by
  unfold res bys
  rw[List.map_cons,zgF,Nat.mod_eq_of_lt (show o<256 by omega)];rfl
 have hrl:∀o:Nat,(res l o).length=(encN ((zaO difs o l).map zz)).length+1:=fun o=>by unfold res;rw[List.length_cons]
 refine zaA Tryz.func190 rfl (Nat.le_of_ble_eq_true rfl) rfl rfl ?_
 (repeat' (first|refine zad ?_|(refine zac (fun hb=>?_) (fun hb=>?_)<;>(try(exfalso;omega)))|fail))
 refine zap (reS l) (fun k=>k≤3) (fun k=>3-k) 0 (by omega) (by show Le _ _ (reS l 0);(refine Le.mk [] [] zaj zal zan zah)) fun k hk=>?_
 change awp _ _ _ _ _ (reS l k)
 cases k with
 |zero=>
  have cR:=cR 0 (by omega)
  have cN:=cN 0 (by omega)
  have hR:=hR 0 (by omega)
  have hel:=hel 0
  rw[hll 0]at hel
  have hbl:=zas (encN ((zaO difs 0 l).map zz))
  clear hll hrl
  unfold reS
  generalize(zaO difs 0 l).map zz=V at *
  generalize encN V=E at *
  have hR:[[.v (.int .u8 0)]]++bys E=bys (bst l 0):=hR
  (repeat' (first|(refine zcJ ?_;refine zbh ?_;refine zaf rfl zaa (zoW rfl rfl) ?_)|refine zad ?_|(refine is_f 194 ?_;refine zag (cR) ?_)|(refine is_f 41 ?_;refine zbH (cN) ?_)|(refine zac (fun hb=>?_) (fun hb=>?_)<;>(try(exfalso;omega)))|fail))
  all_goals (first|(exfalso;omega)|exact⟨0+1,by omega,by show Le _ _ (reS l (0+1));(refine Le.mk [(0,3)] [] zaj zal zan zah),by show 3-(0+1)<3-0;omega⟩)
 |succ k=>
  have hk2:k≤2:=by omega
  have hbl:=zas (bst l k)
  have hb1:1≤(bst l k).length∧(bst l k).length≤2+10*l.length:=zjF l k
  have hne:bys (bst l k)≠[]:=by
   intro e
   have :=congrArg List.length e
   rw[hbl,List.length_nil]at this;omega
  rcases Nat.lt_or_ge (k+1) 3 with hk3|hk3
  ·have cR:=cR (k+1) (by omega)
   have cN:=cN (k+1) (by omega)
   have hR:=hR (k+1) (by omega)
   have hel:=hel (k+1)
   have hrl:=hrl (k+1)
   rw[hll (k+1)]at hel
   have hbe:=zas (encN ((zaO difs (k+1) l).map zz))
   have hcv:IntKind.u8.wrap ((k+1:Nat):Int)=((k+1:Nat):Int):=by rw[IntKind.wrap_u8];omega
   have hinc:=zaE (k+1) (by omega)
   have hs:bst l (k+1)=shorter (bst l k) (res l (k+1)):=rfl
   clear hll
   unfold reS
   generalize(zaO difs (k+1) l).map zz=V at *
   generalize encN V=E at *
   rcases Nat.lt_or_ge (E.length+1) (bst l k).length with hlt|hge
   ·have hs:bst l (k+1)=res l (k+1):=by rw[hs];exact if_pos (by omega)
    rw[←hs]at hR
    (repeat' (first|(refine zcJ ?_;refine zbh ?_;refine zaf rfl zaa (zix rfl rfl hne rfl) ?_)|refine zad ?_|(refine is_f 194 ?_;refine zag (cR) ?_)|(refine is_f 41 ?_;refine zbI (cN) ?_)|(refine zac (fun hb=>?_) (fun hb=>?_)<;>(try(exfalso;omega)))|fail))
    all_goals (first|(exfalso;omega)|exact⟨k+1+1,by omega,by show Le _ _ (reS l (k+1+1));(refine Le.mk [(0,4)] [] zaj zal zan zah),by show 3-(k+1+1)<3-(k+1);omega⟩)
   ·have hs:bst l (k+1)=bst l k:=by rw[hs];exact if_neg (by omega)
    have hs2:bys (bst l k)=bys (bst l (k+1)):=by rw[hs]
    (repeat' (first|(refine zcJ ?_;refine zbh ?_;refine zaf rfl zaa (zix rfl rfl hne rfl) ?_)|refine zad ?_|(refine is_f 194 ?_;refine zag (cR) ?_)|(refine is_f 41 ?_;refine zbI (cN) ?_)|(refine zac (fun hb=>?_) (fun hb=>?_)<;>(try(exfalso;omega)))|fail))
    all_goals (first|(exfalso;omega)|exact⟨k+1+1,by omega,by show Le _ _ (reS l (k+1+1));(refine Le.mk [(0,0)] [] zaj zal zan zah),by show 3-(k+1+1)<3-(k+1);omega⟩)
  ·have hE:bst l k=resE l:=by rw[show k=2 by omega];rfl
   show awp _ _ _ _ _ ⟨[(0,.r (.sl 1 (nums .i64 l))),(4,.ow 0),(10,.r (.v (.int .i64 ((k+1:Nat):Int))))],[(0,some (.row 5 1 (bys (bst l k))))],1⟩
   rw[hE]
   (repeat' (first|refine zad ?_|(refine zac (fun hb=>?_) (fun hb=>?_)<;>(try(exfalso;omega)))|fail))
   all_goals (first|(exfalso;omega)|exact ret2 [] (.fr 0 _ _ _ rfl) (.int rfl) rfl rfl rfl rfl)
theorem zlY (b:List UInt8) (a t:Nat) (ha:a≤b.length) (ht:t≤4096):zam Tryz.prog 205 [.r (.sl 1 (bys b)),.r (.v (.int .i64 (a:Int))),.r (.v (.int .i64 (t:Int)))] [] (.r (.v (.bool true))) []:=by
 have hbl:=zas b
 refine zaA Tryz.func205 rfl (Nat.le_of_ble_eq_true rfl) rfl rfl ?_
 (repeat' (first|refine zad ?_|(refine zac (fun hb=>?_) (fun hb=>?_)<;>(try(exfalso;omega)))|fail))
 all_goals (first|(exfalso;omega)|exact ret1 [] (.bool rfl) rfl rfl rfl)
theorem zlK (b:List UInt8) (a t n e:Nat) (hb:b.length≤140737488355328) (ha:a≤b.length) (ht:t≤4096) (h:rdN b (a:Int)=(n,(e:Int),0)) (hn:n≤t):zam Tryz.prog 206 [.r (.sl 1 (bys b)),.r (.v (.int .i64 (a:Int))),.r (.v (.int .i64 (t:Int)))] [] (.tu [.r (.v (.int .i64 (n:Int))),.r (.v (.int .i64 (e:Int))),.r (.v (.int .i64 0))]) []:=by
 have cR:=zb7 b (a:Int) (by omega) (by unfold I64;omega)
 rw[h]at cR
 dsimp only at cR
 have hcv:IntKind.u64.wrap (t:Int)=(t:Int):=by rw[IntKind.wrap_u64];omega
 have hcv2:IntKind.i64.wrap (n:Int)=(n:Int):=by rw[IntKind.wrap_i64];omega
 refine zaA Tryz.func206 rfl (Nat.le_of_ble_eq_true rfl) rfl rfl ?_
 (repeat' (first|refine zad ?_|(refine is_f 65 ?_;refine zag (cR) ?_)|(refine zac (fun hb=>?_) (fun hb=>?_)<;>(try(exfalso;omega)))|fail))
 all_goals (first|(exfalso;omega)|exact ret3 [] (.int rfl) (.int rfl) (.int rfl) rfl rfl rfl rfl rfl)
def smT (c:List Int) (k:Nat):Int:=(c.take k).sum
theorem ziG {c:List Int} {k:Nat} (h:k<c.length):smT c (k+1)=smT c k+c.getD k 0:=by
 unfold smT;rw[zaI c k 0 h];simp
theorem zhm {c:List Int} (h:∀x∈c,1≤x) (k:Nat):0≤smT c k∧smT c k≤c.sum:=by
 have key:∀l:List Int,(∀x∈l,1≤x)→0≤l.sum:=by
  intro l
  induction l with
  |nil=>intro _;simp
  |cons x l ih=>intro h;have :=ih fun y hy=>h y (by simp[hy]);have :=h x (by simp);rw[List.sum_cons];omega
 have h1:=key (c.take k) fun x hx=>h x (List.mem_of_mem_take hx)
 have h2:=key (c.drop k) fun x hx=>h x (List.mem_of_mem_drop hx)
 have h3:c.sum=(c.take k).sum+(c.drop k).sum:=by rw[←List.sum_append,List.take_append_drop]
 unfold smT
 omega
def suS (c:List Int) (k:Nat):St:=⟨[(1,.r (.v (.int .i64 4096))),(5,.r (.v (.int .i64 (smT c k)))),(8,.r (.sl 1 (nums .i64 c))),(9,.r (.v (.int .i64 (c.length:Int)))),(10,.r (.v (.int .i64 (k:Int))))],[],0⟩
theorem zo2 (c:List Int) (h:∀x∈c,1≤x) (hs:c.sum≤4096) (hl:c.length≤4096):zam Tryz.prog 228 [.r (.sl 1 (nums .i64 c)),.r (.v (.int .i64 4096))] [] (.r (.v (.int .i64 c.sum))) []:=by
 have hnl:=zao .i64 c
 have e0:((nums .i64 c).length:Int)=(c.length:Int):=by rw[hnl]
 refine zaA Tryz.func228 rfl (Nat.le_of_ble_eq_true rfl) rfl rfl ?_
 have z0:(0:Int)=smT c 0:=rfl
 (repeat' (first|refine zad ?_|(refine zac (fun hb=>?_) (fun hb=>?_)<;>(try(exfalso;omega)))|fail))
 refine zap (suS c) (fun k=>k≤c.length) (fun k=>c.length-k) 0 (Nat.zero_le _) (by show Le _ _ (suS c 0);(refine Le.mk [] [] zaj zal zan zah)) fun k hk=>?_
 change awp _ _ _ _ _ (suS c k)
 have h2:=zhm h k
 rcases Nat.lt_or_ge k c.length with hlt|hge
 ·have hsu:=ziG hlt
  have hle:=zhm h (k+1)
  have hge1:1≤c.getD k 0:=h _ (by rw[List.getD_eq_getElem?_getD,List.getElem?_eq_getElem hlt];exact List.getElem_mem hlt)
  have hadd:smT c k+c.getD k 0=smT c (k+1):=hsu.symm
  have hinc:=zaE k (by omega)
  unfold suS
  (repeat' (first|refine zad ?_|(refine zac (fun hb=>?_) (fun hb=>?_)<;>(try(exfalso;omega)))|fail))
  all_goals (first|(exfalso;omega)|exact⟨k+1,hlt,by show Le _ _ (suS c (k+1));(refine Le.mk [] [] zaj zal zan zah),by show c.length-(k+1)<c.length-k;omega⟩)
 ·have e1:smT c k=c.sum:=by unfold smT;rw[List.take_of_length_le hge]
  unfold suS
  rw[e1]
  (repeat' (first|refine zad ?_|(refine zac (fun hb=>?_) (fun hb=>?_)<;>(try(exfalso;omega)))|fail))
  all_goals (first|(exfalso;omega)|exact ret1 [] (.int rfl) rfl rfl rfl)
def upI (c:List Int) (i:Nat):List Int:=c.take i++(List.replicate c.length 0).drop i
theorem zk2 {c:List Int} {i:Nat} (h:i≤c.length):(upI c i).length=c.length:=by unfold upI;rw[List.length_append,List.length_take,List.length_drop,List.length_replicate];omega
theorem znT {c:List Int} {i:Nat} (h:i<c.length):(upI c i).set i (c.getD i 0)=upI c (i+1):=zkf List.length_replicate.symm (by rw[List.length_replicate];exact h)
theorem znR (c:List Int):upI c c.length=c:=by unfold upI;rw[List.take_length,List.drop_eq_nil_of_le (by rw[List.length_replicate];omega),List.append_nil]
theorem zo3 (c:List Int):List.replicate c.length (List.map RV.v [Value.int .i64 0])=nums .i64 (upI c 0):=by unfold upI;rw[List.take_zero,List.nil_append,List.drop_zero];simp[nums]
theorem znS {c:List Int} {i:Nat} (h:i<c.length):(upI c (i+1)).getD i 0=c.getD i 0:=zdo (by omega) h
def cnL (c:List Int):List Nat:=c.map fun x=>(x-1).toNat
theorem zbx (c:List Int):(cnL c).length=c.length:=List.length_map _
theorem zjQ {c:List Int} {i:Nat} (h:i<c.length):(cnL c).getD i 0=(c.getD i 0-1).toNat:=by
 unfold cnL
 rw[List.getD_eq_getElem?_getD,List.getD_eq_getElem?_getD,List.getElem?_map,List.getElem?_eq_getElem h];rfl
def ctS (c:List Int) (t e i:Nat):St:=⟨[(3,.r (.v (.int .i64 (t:Int)))),(13,.r (.v (.int .i64 (e:Int)))),(15,.ow 1),(16,.r (.v (.int .i64 (smT c i)))),(32,.ow 0),(33,.r (.v (.int .i64 (c.length:Int)))),(34,.r (.v (.int .i64 (i:Int))))],[(0,some (.row 49 1 (wns (cnL c)))),(1,some (.row 3 1 (nums .i64 (upI c i))))],2⟩
theorem zls (b:List UInt8) (a e t:Nat) (c:List Int) (hb:b.length≤140737488355328) (ha:a≤b.length) (ht:t≤4096) (h1:∀x∈c,1≤x) (hs:c.sum≤t) (hl:c.length≤4096) (hd:decN b a c.length=(cnL c,e,0)):
  zam Tryz.prog 207 [.r (.sl 1 (bys b)),.r (.v (.int .i64 (a:Int))),.r (.v (.int .i64 (c.length:Int))),.r (.v (.int .i64 (t:Int)))] [] (.tu [.fr 3 1 (nums .i64 c),.r (.v (.int .i64 c.sum)),.r (.v (.int .i64 (e:Int))),.r (.v (.int .i64 0))]) []:=by
 have cN:=zfi b c.length a hb (by omega) ha _ (.inl ⟨by rw[hd],rfl⟩)
 rw[hd]at cN
 dsimp only at cN
 clear hd
 have hwl:(wns (cnL c)).length=c.length:=by rw[zbu,zbx]
 have h01:((wns (cnL c)).length:Int)=(c.length:Int):=by rw[hwl]
 have h00:=zo3 c
 have z0:(0:Int)=smT c 0:=rfl
 refine zfM Tryz.func207 rfl (Nat.le_of_ble_eq_true rfl) rfl rfl ?_
 (repeat' (first|refine zad ?_|(refine is_f 67 ?_;refine zag (cN) ?_)|(refine zac (fun hb=>?_) (fun hb=>?_)<;>(try(exfalso;omega)))|fail))
 all_goals (first|(exfalso;omega)|skip)
 refine zap (ctS c t e) (fun i=>i≤c.length) (fun i=>c.length-i) 0 (Nat.zero_le _) (by show Le _ _ (ctS c t e 0);(refine Le.mk [(0,0),(1,1)] [] zaj zal zan zah)) fun i hi=>?_
 clear h00 z0 cN
 change awp _ _ _ _ _ (ctS c t e i)
 have hul:=zk2 (c:=c) hi
 have hnl:=zao .i64 (upI c i)
 rcases Nat.lt_or_ge i c.length with hi'|hi'
 ·have hge1:1≤c.getD i 0:=h1 _ (by rw[List.getD_eq_getElem?_getD,List.getElem?_eq_getElem hi'];exact List.getElem_mem hi')
  have hsu:=ziG hi'
  have hle:=zhm h1 (i+1)
  have hl0:=zhm h1 i
  have hgw:=zch (l:=cnL c) (i:=i) (by rw[zbx];exact hi')
  have hx:(((cnL c).getD i 0:Nat):Int)=c.getD i 0-1:=by rw[zjQ hi'];omega
  rw[hx]at hgw
  have hE:(nums .i64 (upI c i)).set i [.v (.int .i64 (c.getD i 0))]=nums .i64 (upI c (i+1)):=by rw[zeP,znT hi']
  have hcv:IntKind.u64.wrap (t:Int)=(t:Int):=by rw[IntKind.wrap_u64];omega
  have hmin:(if(t:Int)<c.getD i 0-1 then(t:Int)else c.getD i 0-1)=c.getD i 0-1:=by split <;>omega
  have hcv2:IntKind.i64.wrap (c.getD i 0-1)=c.getD i 0-1:=by rw[IntKind.wrap_i64];omega
  have hcv3:IntKind.i64.wrap (c.getD i 0-1+1)=c.getD i 0:=by rw[IntKind.wrap_i64];omega
  have hcv4:IntKind.i64.wrap (smT c i+c.getD i 0)=smT c (i+1):=by rw[IntKind.wrap_i64];omega
  have hgo:((nums .i64 (upI c i)).set i [.v (.int .i64 (c.getD i 0))])[i]? =some [.v (.int .i64 (c.getD i 0))]:=by rw[hE,zbP (by rw[zk2 (by omega)];exact hi'),znS hi']
  have hti:=zaE t (by omega)
  have hmin2:(if((t+1:Nat):Int)<smT c (i+1)then((t+1:Nat):Int)else smT c (i+1))=smT c (i+1):=by split <;>omega
  have hinc:=zaE i (by omega)
  unfold ctS
  (repeat' (first|refine zad ?_|(refine zac (fun hb=>?_) (fun hb=>?_)<;>(try(exfalso;omega)))|fail))
  all_goals (first|(exfalso;omega)|exact⟨i+1,hi',by show Le _ _ (ctS c t e (i+1));(refine Le.mk [(0,0),(1,1)] [] zaj zal zan zah),by show c.length-(i+1)<c.length-i;omega⟩)
 ·obtain rfl:i=c.length:=by omega
  have e1:smT c c.length=c.sum:=by unfold smT;rw[List.take_length]
  unfold ctS
  rw[e1,znR]
  (repeat' (first|refine zad ?_|(refine zac (fun hb=>?_) (fun hb=>?_)<;>(try(exfalso;omega)))|fail))
  all_goals (first|(exfalso;omega)|exact ret4 [] (.fr 1 _ _ _ rfl) (.int rfl) (.int rfl) (.int rfl) rfl rfl rfl rfl rfl rfl)
def vsA (vs:List Value):List AV:=vs.map fun x=>.r (.v x)
section
variable {env:Nat→AV} {H:Nat→Option Blk} {d:Option Tmp} {ty:TypeId} {pos:String} {af:Array Edge} {g:Option (Nat×Bool)} {u:TypeId} {x y:Operand}
end
end Go.Proofs.YthiioppfnmcclaaGreat
namespace Go.Ab
open Go.RowKit Go.Proofs.YthiioppfnmcclaaGreat
def mdV (e c a b:Int):List Value:=[.int .i64 e,.int .i64 c,.int .i64 a,.int .i64 b]
theorem Rt.mdV {H:Nat→Option Blk} {L:Nat} {G:List Nat} (e c a b:Int):Rt H L G (.ag (vsA (Go.Ab.mdV e c a b))) (.ag (vsA (Go.Ab.mdV e c a b))) []:=.ag _ _ _ (Rt.agR ((Go.Ab.mdV e c a b).map RV.v))
end Go.Ab
namespace Go.Proofs.YthiioppfnmcclaaGreat
open Go.RowKit Go.Ab Go.Wd
def cons (l:List (Int×Int)):List (List RV):=l.map fun x=>[.v (.int .i64 x.1),.v (.int .i64 x.2)]
theorem zcv (l:List (Int×Int)):(cons l).length=l.length:=by simp[cons]
theorem zif {l:List (Int×Int)} {j:Nat} (h:j<l.length):(cons l)[j]? =some [.v (.int .i64 (l.getD j (0,0)).1),.v (.int .i64 (l.getD j (0,0)).2)]:=by simp[cons,h]
theorem cons_append (a b:List (Int×Int)):cons (a++b)=cons a++cons b:=by simp[cons]
theorem zm7 (e:Int) (h:0≤e∧e≤4611686018427387904):zam Tryz.prog 281 [.r (.v (.int .i64 e))] [] (.r (.v (.bool true))) []:=by
 refine zaA Tryz.func281 rfl (Nat.le_of_ble_eq_true rfl) rfl rfl ?_
 (repeat' (first|refine zad ?_|(refine zac (fun hb=>?_) (fun hb=>?_)<;>(try(exfalso;omega)))|fail))
 all_goals (first|(exfalso;omega)|exact ret1 [] (.bool rfl) rfl rfl rfl)
theorem zj9 (e:Int) (h:0≤e∧e≤4611686018427387904):zam Tryz.prog 276 [.r (.v (.int .i64 e))] [] (.tu [.ag (vsA (mdV e 0 0 0)),.r (.v (.int .i64 0))]) []:=by
 have cT:=zm7 e h
 refine zaA Tryz.func276 rfl (Nat.le_of_ble_eq_true rfl) rfl rfl ?_
 (repeat' (first|refine zad ?_|(refine is_f 281 ?_;refine zag (cT) ?_)|(refine zac (fun hb=>?_) (fun hb=>?_)<;>(try(exfalso;omega)))|fail))
 all_goals exact zl9 [] (Rt.mdV _ _ _ _) (.int rfl) rfl rfl rfl rfl rfl (zbp rfl) rfl
theorem zfT (e c a b:Int) (h:0≤e∧e≤4611686018427387904) (ha:I64 a) (hb:I64 b) (hab:a≤b) (r:Bool) (hr:r=decide (b-a≤2*e)):zam Tryz.prog 282 [.ag (vsA (mdV e c a b))] [] (.r (.v (.bool r))) []:=by
 have cD:=zjU b a hb ha
 rw[show dst b a=b-a by unfold dst;split <;>omega]at cD
 refine zaA Tryz.func282 rfl (Nat.le_of_ble_eq_true rfl) rfl rfl ?_
 have c1:IntKind.u64.wrap e=e:=by rw[IntKind.wrap_u64];omega
 have c2:IntKind.u64.wrap (2*e)=2*e:=by rw[IntKind.wrap_u64];omega
 by_cases hw:b-a≤2*e
 ·obtain rfl:r=true:=by rw[hr,decide_eq_true hw]
  (repeat' (first|refine zad ?_|(refine is_f 40 ?_;refine zag (cD) ?_)|(refine zac (fun hb=>?_) (fun hb=>?_)<;>(try(exfalso;omega)))|fail))
  all_goals (first|(exfalso;omega)|exact ret1 [] (.bool rfl) rfl rfl rfl)
 ·obtain rfl:r=false:=by rw[hr,decide_eq_false hw]
  (repeat' (first|refine zad ?_|(refine is_f 40 ?_;refine zag (cD) ?_)|(refine zac (fun hb=>?_) (fun hb=>?_)<;>(try(exfalso;omega)))|fail))
  all_goals (first|(exfalso;omega)|exact ret1 [] (.bool rfl) rfl rfl rfl)
theorem zj8 (e a b:Int):zam Tryz.prog 278 [.ag (vsA (mdV e 0 a b))] [] (.r (.v (.slice none 0 0))) []:=by
 refine zaA Tryz.func278 rfl (Nat.le_of_ble_eq_true rfl) rfl rfl ?_
 (repeat' (first|refine zad ?_|(refine zac (fun hb=>?_) (fun hb=>?_)<;>(try(exfalso;omega)))|fail))
 all_goals (first|(exfalso;omega)|exact ret1 [] (.r _) rfl rfl rfl)
theorem ziu (e c a b:Int) (hc:0<c):zam Tryz.prog 278 [.ag (vsA (mdV e c a b))] [] (.fr 153 2 (cons [(c,midv a b)])) []:=by
 have cM:=zoS a b
 generalize midv a b=m at *
 refine zaA Tryz.func278 rfl (Nat.le_of_ble_eq_true rfl) rfl rfl ?_
 (repeat' (first|refine zad ?_|(refine is_f 283 ?_;refine zag (cM) ?_)|(refine zac (fun hb=>?_) (fun hb=>?_)<;>(try(exfalso;omega)))|fail))
 all_goals (first|(exfalso;omega)|exact ret1 [] (.fr 1 _ _ _ rfl) rfl rfl rfl)
theorem zka (e v a b:Int):zam Tryz.prog 277 [.ag (vsA (mdV e 0 a b)),.r (.v (.int .i64 v))] [] (.tu [.ag (vsA (mdV e 1 v v)),.r (.v (.slice none 0 0))]) []:=by
 have cR:=zj8 e a b
 refine zaA Tryz.func277 rfl (Nat.le_of_ble_eq_true rfl) rfl rfl ?_
 (repeat' (first|refine zad ?_|(refine is_f 278 ?_;refine zag (cR) ?_)|(refine zac (fun hb=>?_) (fun hb=>?_)<;>(try(exfalso;omega)))|fail))
 all_goals (first|(exfalso;omega)|exact zl9 [] (Rt.mdV _ _ _ _) (.r _) rfl rfl rfl rfl rfl (zbp rfl) rfl)
theorem zkc (e c v a b:Int) (h:0≤e∧e≤4611686018427387904) (hc:0<c∧c<1073741824) (hv:I64 v) (ha:I64 a) (hb:I64 b) (hab:a≤b) (hw:max b v-min a v≤2*e):zam Tryz.prog 277 [.ag (vsA (mdV e c a b)),.r (.v (.int .i64 v))] [] (.tu [.ag (vsA (mdV e (c+1) (min a v) (max b v))),.r (.v (.slice none 0 0))]) []:=by
 unfold I64 at *
 have cN:=zfT e (c+1) (min a v) (max b v) h (by unfold I64;omega) (by unfold I64;omega) (by omega) true (by rw[decide_eq_true hw])
 have hi:IntKind.i64.wrap (c+1)=c+1:=by rw[IntKind.wrap_i64];omega
 have m1:(if v<a then v else a)=min a v:=by split <;>omega
 have m2:(if b<v then v else b)=max b v:=by split <;>omega
 generalize min a v=p at *
 generalize max b v=q at *
 refine zaA Tryz.func277 rfl (Nat.le_of_ble_eq_true rfl) rfl rfl ?_
 (repeat' (first|refine zad ?_|(refine is_f 282 ?_;refine zag (cN) ?_)|(refine zac (fun hb=>?_) (fun hb=>?_)<;>(try(exfalso;omega)))|fail))
 all_goals (first|(exfalso;omega)|exact zl9 [] (Rt.mdV _ _ _ _) (.r _) rfl rfl rfl rfl rfl (zbp rfl) rfl)
theorem zkb (e c v a b:Int) (h:0≤e∧e≤4611686018427387904) (hc:0<c∧c<1073741824) (hv:I64 v) (ha:I64 a) (hb:I64 b) (hab:a≤b) (hw:¬max b v-min a v≤2*e):zam Tryz.prog 277 [.ag (vsA (mdV e c a b)),.r (.v (.int .i64 v))] [] (.tu [.ag (vsA (mdV e 1 v v)),.fr 153 2 (cons [(c,midv a b)])]) []:=by
 unfold I64 at *
 have cN:=zfT e (c+1) (min a v) (max b v) h (by unfold I64;omega) (by unfold I64;omega) (by omega) false (by rw[decide_eq_false hw])
 have cR:=ziu e c a b hc.1
 have hi:IntKind.i64.wrap (c+1)=c+1:=by rw[IntKind.wrap_i64];omega
 have m1:(if v<a then v else a)=min a v:=by split <;>omega
 have m2:(if b<v then v else b)=max b v:=by split <;>omega
 generalize min a v=p at *
 generalize max b v=q at *
 generalize midv a b=m at *
 refine zaA Tryz.func277 rfl (Nat.le_of_ble_eq_true rfl) rfl rfl ?_
 (repeat' (first|refine zad ?_|(refine is_f 282 ?_;refine zag (cN) ?_)|(refine is_f 278 ?_;refine zag (cR) ?_)|(refine zac (fun hb=>?_) (fun hb=>?_)<;>(try(exfalso;omega)))|fail))
 all_goals (first|(exfalso;omega)|exact zl9 [] (Rt.mdV _ _ _ _) (.fr 3 _ _ _ rfl) rfl rfl rfl rfl rfl (zbp rfl) rfl)
end Go.Proofs.YthiioppfnmcclaaGreat
