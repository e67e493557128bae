/- Texts of the second layer in one: Cs3 Iv1 Md2 Md3 Ch1 Ch2. -/
import Derived.Test.YthiioppfnmcclaaGreatG20
import Derived.Test.YthiioppfnmcclaaGreatG7
import Derived.Test.YthiioppfnmcclaaGreatG8
import Derived.Test.YthiioppfnmcclaaGreatG5
import Derived.Test.YthiioppfnmcclaaGreatG10
import Derived.LoopIn
import Derived.Test.YthiioppfnmcclaaGreatG15
import Derived.Test.YthiioppfnmcclaaGreatG19
import Derived.Test.YthiioppfnmcclaaGreatG4
set_option maxHeartbeats 8000000
set_option maxRecDepth 100000
set_option linter.unusedVariables false
set_option linter.unusedSimpArgs false
namespace Go.Proofs.YthiioppfnmcclaaGreat
open Go.RowKit Go.Ab Go.Wd
theorem zhf (p q:List UInt8) (l:List Int) (h:∀v∈l,In64 v) (hn:l.length≤65536) (hb:(p++(resE l++q)).length≤140737488355328):
  zam Tryz.prog 189 [.r (.sl 1 (bys (p++(resE l++q)))),.r (.v (.int .i64 (p.length:Int))),.r (.v (.int .i64 (l.length:Int)))] [] (.tu [.fr 2 1 (nums .i64 l),.r (.v (.int .i64 ((p.length+(resE l).length:Nat):Int))),.r (.v (.int .i64 0))]) []:=by
 obtain⟨o,ho,he⟩:=zkC l
 have hw:(UInt8.ofNat o).toNat=o:=by rw[zgF];omega
 have hin:=zcO (f:=difs) (fun l h=>zfb h) o l h
 have hl:(zaO difs o l).length=l.length:=za7 difs zbG o l
 have g0:(p++(resE l++q)).getD p.length 0=UInt8.ofNat o:=by rw[he];exact zeL _ _ _
 have hd:decN (p++(resE l++q)) (p.length+1) l.length=((zaO difs o l).map zz,p.length+(resE l).length,0):=by
  have :=zeK (p++[UInt8.ofNat o]) q _ (zmP hin)
  rw[List.length_map,hl]at this
  rw[show p++(resE l++q)=(p++[UInt8.ofNat o])++(encN ((zaO difs o l).map zz)++q) by rw[he];simp[res],show p.length+1=(p++[UInt8.ofNat o]).length by simp,this]
  rw[he,res]
  simp only[List.length_append,List.length_cons,List.length_nil]
  congr 2
  omega
 have hlt:p.length<(p++(resE l++q)).length:=by rw[he];simp[res]
 have hg:((p++(resE l++q)).getD p.length 0).toNat=o:=by rw[g0,hw]
 exact zl8 _ _ _ l h hn hb hlt (by omega) (by rw[hg];exact hd) ⟨by omega,by simp⟩ (ziJ _ _ _)
def cdS (c v:List Int) (e i:Nat):St:=⟨[(1,.r (.v (.int .i64 (e:Int)))),(11,.ow 0),(13,.ow 1),(14,.ow 2),(64,.r (.v (.int .i64 (c.length:Int)))),(65,.r (.v (.int .i64 (i:Int))))],[(0,some (.row 3 1 (nums .i64 c))),(1,some (.row 2 1 (nums .i64 v))),(2,some (.row 153 2 (zcP c v i)))],3⟩
theorem zmO:∀M:List (Int×Int),(M.map Prod.fst).zip (M.map Prod.snd)=M
 |[]=>rfl
 |x::M=>by rw[List.map_cons,List.map_cons,List.zip_cons_cons,zmO M]
theorem zlq (p q:List UInt8) (M:List (Int×Int)) (t:Nat) (h:CsOk M) (ht:(M.map Prod.fst).sum=t) (hMt:M.length≤t) (hb:(p++(conE M++q)).length≤140737488355328):
  zam Tryz.prog 268 [.r (.sl 1 (bys (p++(conE M++q)))),.r (.v (.int .i64 (p.length:Int))),.r (.v (.int .i64 (t:Int)))] [] (.tu [.fr 153 2 (cons M),.r (.v (.int .i64 ((p.length+(conE M).length:Nat):Int))),.r (.v (.int .i64 0))]) []:=by
 have hML:=h.len
 have hsum:=h.sum
 have ht4:t≤4096:=by omega
 have hE:=zgd M
 have hcl:(M.map Prod.fst).length=M.length:=List.length_map _
 have hvl:(M.map Prod.snd).length=M.length:=List.length_map _
 have e1:p++(conE M++q)=p++(vb M.length++(encN (cnL (M.map Prod.fst))++(resE (M.map Prod.snd)++q))):=by rw[hE];simp
 have e2:p++(conE M++q)=(p++vb M.length)++(encN (cnL (M.map Prod.fst))++(resE (M.map Prod.snd)++q)):=by rw[hE];simp
 have e3:p++(conE M++q)=(p++vb M.length++encN (cnL (M.map Prod.fst)))++(resE (M.map Prod.snd)++q):=by rw[hE];simp
 have r1:=zdF p (encN (cnL (M.map Prod.fst))++(resE (M.map Prod.snd)++q)) M.length (by rw[ze1];omega)
 rw[←e1]at r1
 have r2:=zeK (p++vb M.length) (resE (M.map Prod.snd)++q) (cnL (M.map Prod.fst)) (zmx h.le)
 rw[←e2,zbx]at r2
 have cR:=zhf (p++vb M.length++encN (cnL (M.map Prod.fst))) q (M.map Prod.snd) h.vals (by omega) (by rw[←e3];exact hb)
 rw[←e3]at cR
 have hlen:p.length+(conE M).length=(p++vb M.length++encN (cnL (M.map Prod.fst))).length+(resE (M.map Prod.snd)).length:=by rw[hE];simp;omega
 have hp1:p.length≤(p++(conE M++q)).length:=by simp
 have hp2:(p++vb M.length).length≤(p++(conE M++q)).length:=by rw[e2];simp
 rw[hlen]
 have hlb:=hb
 have cP:=zlY (p++(conE M++q)) p.length t hp1 ht4
 have cN:=zlK (p++(conE M++q)) p.length t M.length _ hb hp1 ht4 r1 hMt
 rw[←List.length_append]at cN
 have cC:=zls (p++(conE M++q)) (p++vb M.length).length _ t (M.map Prod.fst) hb hp2 ht4 h.one (by omega) (by omega) r2
 rw[←List.length_append,hcl,ht]at cC
 rw[hvl]at cR
 have hz:=zmO M
 have hnc:=zao .i64 (M.map Prod.fst)
 have hnv:=zao .i64 (M.map Prod.snd)
 have hc1:cons M=smps ((M.map Prod.fst).zip (M.map Prod.snd)):=by rw[hz];rfl
 rw[hc1]
 clear r1 r2 e1 e2 e3 hE hz hc1 h hlen hp1 hp2 hb
 generalize(p++vb M.length++encN (cnL (M.map Prod.fst))).length=n3 at *
 generalize(p++vb M.length).length=n2 at *
 generalize(resE (M.map Prod.snd)).length=n4 at *
 generalize p++(conE M++q)=b at *
 generalize M.map Prod.fst=c at *
 generalize M.map Prod.snd=v at *
 generalize M.length=n at *
 have h00:List.replicate n (List.map RV.v [Value.int .i64 0,Value.int .i64 0])=zcP c v 0:=by unfold zcP;rw[hcl];rfl
 have hp0:(List.replicate n (List.map RV.v [Value.int .i64 0,Value.int .i64 0])).length=c.length:=by rw[List.length_replicate,hcl]
 refine zaA Tryz.func268 rfl (Nat.le_of_ble_eq_true rfl) rfl rfl ?_
 (repeat' (first|refine zad ?_|(refine is_f 205 ?_;refine zag (cP) ?_)|(refine is_f 206 ?_;refine zag (cN) ?_)|(refine is_f 207 ?_;refine zag (cC) ?_)|(refine is_f 189 ?_;refine zag (cR) ?_)|(refine zac (fun hb=>?_) (fun hb=>?_)<;>(try(exfalso;omega)))|fail))
 all_goals (first|(exfalso;omega)|skip)
 refine zap (cdS c v (n3+n4)) (fun i=>i≤c.length) (fun i=>c.length-i) 0 (Nat.zero_le _) (by show Le _ _ (cdS c v (n3+n4) 0);(refine Le.mk [(0,0),(1,1),(2,2)] [] zaj zal zan zah)) fun i hi=>?_
 clear h00 hp0 cP cN cC cR
 change awp _ _ _ _ _ (cdS c v (n3+n4) i)
 have hpl:=zhc c v i (by omega) hi
 rcases Nat.lt_or_ge i c.length with hi'|hi'
 ·have hG:=zhb c v i (by omega) hi'
  have hE:=zhd c v i (by omega) hi'
  have hg1:=zbP (k:=.i64) (l:=c) (j:=i) hi'
  have hg2:=zbP (k:=.i64) (l:=v) (j:=i) (by omega)
  have hinc:=zaE i (by omega)
  unfold cdS
  (repeat' (first|refine zad ?_|(refine zac (fun hb=>?_) (fun hb=>?_)<;>(try(exfalso;omega)))|fail))
  all_goals (first|(exfalso;omega)|exact⟨i+1,hi',by show Le _ _ (cdS c v (n3+n4) (i+1));(refine Le.mk [(0,0),(1,1),(2,2)] [] zaj zal zan zah),by show c.length-(i+1)<c.length-i;omega⟩)
 ·obtain rfl:i=c.length:=by omega
  have e:zcP c v c.length=smps (c.zip v):=by unfold zcP;rw[List.take_of_length_le (by rw[List.length_zip];omega),Nat.sub_self];simp
  unfold cdS
  rw[e]
  (repeat' (first|refine zad ?_|(refine zac (fun hb=>?_) (fun hb=>?_)<;>(try(exfalso;omega)))|fail))
  all_goals (first|(exfalso;omega)|exact ret3 [] (.fr 2 _ _ _ rfl) (.int rfl) (.int rfl) rfl rfl rfl rfl rfl)
end Go.Proofs.YthiioppfnmcclaaGreat
namespace Go.Proofs.YthiioppfnmcclaaGreat
open Go.RowKit Go.Ab
attribute [local go_sem] Oper.semAt_some
def iv64 (x:Int):Value:=.int .i64 x
theorem zh8 (l:List Int) (hl:l.length≤1000000) {lb:Array Value} {B0:Nat→Prop} {W0:World} {Z0:Nat→Value} (hr:AV.reps Z0 B0 W0 [.rp [.sl 1 (nums .i64 l)]] lb.toList):Iter Tryz.prog 284 lb (l.map iv64) B0 W0:=by
 intro n yl J W hn stab hK hY h0
 have hlen:(nums .i64 l).length=l.length:=zao .i64 l
 rw[AV.reps]at hr
 obtain⟨p,us,e1,h1,h2⟩:=hr
 rw[AV.reps]at h2
 subst h2
 rw[AV.rep]at h1
 obtain⟨ad,rfl,hlt,hnb,hrow⟩:=h1
 rw[RV.row]at hrow
 obtain⟨⟨u,hc,hone,hu⟩,_⟩:=hrow
 have elb:lb= #[.pointer (some ad)]:=by
  have :=congrArg List.toArray e1
  simpa using this
 subst elb
 have hc0:W0.cell? ad=some u:=hc
 have good:∀B A,Kp B0 B W0 A→RV.rep B A (.sl 1 (nums .i64 l)) u:=fun B A hk=>RV.rep_mono hk.up hk.old _ _ hu
 have hu':=hu
 rw[RV.rep]at hu'
 obtain⟨sa,sc,eu,_⟩:=hu'
 rw[hlen]at eu
 clear hu hc hone e1
 obtain⟨B,hkp,hBlt⟩:=hK 0 W h0
 have hcw:W.cell? ad=some (.slice sa l.length sc):=by rw[←eu];exact hkp.up.cell hc0 hnb
 refine callsIn_of_wp Tryz.func284 rfl trivial ?_ rfl
 simp only[Tryz.ntmps284,List.size_toArray,List.length_cons,List.length_nil,Nat.reduceAdd,Nat.reduceSub,Array.replicate_succ,Array.replicate_zero,List.push_toArray,List.append_toArray,List.nil_append,List.cons_append]
 gi_wp2
 refine wpIn_loop (fun a w=>∃k:Nat,k≤l.length∧J k w∧a.defers=[]∧a.tmps.size=16∧a.tmps.getD 0 undef= .func (.yield yl) #[] #[]∧a.tmps.getD 5 undef=u∧a.tmps.getD 6 undef= .int .i64 (l.length:Int)∧a.tmps.getD 7 undef= .int .i64 (k:Int)) (fun a _=>l.length-(intOf (a.tmps.getD 7 undef)).toNat) ⟨0,Nat.zero_le _,h0,rfl,rfl,rfl,by rw[eu];rfl,rfl,rfl⟩ ?_
 clear hcw hkp hBlt h0
 rintro a w1 ⟨k,hk,hJ,hd,hsz,t0,t5,t6,t7⟩
 obtain⟨B1,kp1,lt1⟩:=hK k w1 hJ
 have hg:=good _ _ kp1
 have s1:Sim ⟨Tryz.prog,w1,B1,Z0,⟨0,0⟩,16,[]⟩ ⟨[(0,.r (.v (.func (.yield yl) #[] #[]))),(5,.r (.sl 1 (nums .i64 l))),(6,.r (.v (.int .i64 (l.length:Int)))),(7,.r (.v (.int .i64 (k:Int))))],[],0⟩ a w1:=by
  refine zmK lt1 hsz hd (by intro p hp;simp only[List.mem_cons,List.not_mem_nil,or_false]at hp;rcases hp with rfl|rfl|rfl|rfl<;>rfl) ?_
  intro p hp
  simp only[List.mem_cons,List.not_mem_nil,or_false]at hp
  rcases hp with rfl|rfl|rfl|rfl
  ·show AV.rep _ _ _ _ (a.tmps.getD 0 undef);rw[t0,AV.rep,RV.rep]
  ·show AV.rep _ _ _ _ (a.tmps.getD 5 undef);rw[t5,AV.rep];exact hg
  ·show AV.rep _ _ _ _ (a.tmps.getD 6 undef);rw[t6,AV.rep,RV.rep]
  ·show AV.rep _ _ _ _ (a.tmps.getD 7 undef);rw[t7,AV.rep,RV.rep]
 have F0:=zlw Tryz.prog n
 by_cases hlt2:k<l.length
 ·have hx:l[k]? =some (l.getD k 0):=by simp[hlt2]
  refine wpIn_seq ?_
  refine zds (fun S'=>Le ⟨0,0⟩ S' ⟨[(0,.r (.v (.func (.yield yl) #[] #[]))),(5,.r (.sl 1 (nums .i64 l))),(6,.r (.v (.int .i64 (l.length:Int)))),(7,.r (.v (.int .i64 (k:Int)))),(8,.r (.v (.bool true)))],[],0⟩) F0 rfl s1 ?_ ?_
  ·(repeat' (first|refine zad ?_|(refine zac (fun hb=>?_) (fun hb=>?_)<;>(try(exfalso;omega)))|fail))
   all_goals exact by(refine Le.mk [] [] zaj zal zbk zah)
  intro S2 a2 w2 hle2 hs2 pr2
  have s2:=hle2 _ _ _ rfl hs2
  show Code.wpIn Fence.wide n Tryz.prog _ _ a2 w2
  refine wpIn_seq (wpIn_cond_true (zhl s2 (t:=8) rfl) (wpIn_skip ?_))
  show Code.wpIn Fence.wide n Tryz.prog _ _ a2 w2
  refine wpIn_seq (wpIn_block (wpIn_seq ?_))
  refine zds (fun S'=>Le ⟨0,0⟩ S' ⟨[(0,.r (.v (.func (.yield yl) #[] #[]))),(5,.r (.sl 1 (nums .i64 l))),(6,.r (.v (.int .i64 (l.length:Int)))),(7,.r (.v (.int .i64 (k:Int)))),(4,.r (.v (.int .i64 (l.getD k 0))))],[],0⟩) F0 rfl s2 ?_ ?_
  ·(repeat' (first|refine zad ?_|(refine zac (fun hb=>?_) (fun hb=>?_)<;>(try(exfalso;omega)))|fail))
   all_goals exact by(refine Le.mk [] [] zaj zal zbk zah)
  intro S3 a3 w3 hle3 hs3 pr3
  have s3:=hle3 _ _ _ rfl hs3
  show Code.wpIn Fence.wide n Tryz.prog _ _ a3 w3
  refine wpIn_seq (wpIn_region_lit ?_)
  refine zeN (l:=[_,_]) (rest:=[_,_]) (Q0:=fun S'=>Le ⟨0,0⟩ S' ⟨[(0,.r (.v (.func (.yield yl) #[] #[]))),(5,.r (.sl 1 (nums .i64 l))),(6,.r (.v (.int .i64 (l.length:Int)))),(7,.r (.v (.int .i64 (k:Int)))),(11,.r (.v (.func (.yield yl) #[] #[]))),(12,.r (.v (.int .i64 (l.getD k 0))))],[],0⟩) (chk:=fun _=>true) F0 (by rfl) _ [] _ _ s3 ?_ ?_
  ·(repeat' (first|refine zad ?_|(refine zac (fun hb=>?_) (fun hb=>?_)<;>(try(exfalso;omega)))|fail))
   all_goals exact by(refine Le.mk [] [] zaj zal zbk zah)
  intro S4 a4 w4 hle4 hs4 pr4
  have s4:=hle4 _ _ _ rfl hs4
  refine zlN (v:=iv64 (l.getD k 0)) rfl rfl (zhl s4 (t:=11) rfl) (zhl s4 (t:=12) rfl) (fun _=>hn) (fun _=>trivial) (hY k (iv64 (l.getD k 0)) w4 (stab k w1 w4 hJ (zfz s4)) (by rw[List.getElem?_map,hx];rfl)) ?_
  rintro e w5 ⟨rfl,hJ5⟩
  refine⟨_,rfl,?_⟩
  obtain⟨z4,d4⟩:=zgC s4
  have z5:(a4.put (some 13) (.bool true)).tmps.size=16:=by show(a4.tmps.setIfInBounds 13 _).size=16;simpa using z4
  have d5:(a4.put (some 13) (.bool true)).defers=[]:=d4
  have t13:(a4.put (some 13) (.bool true)).tmps.getD 13 undef= .bool true:=put_eq (by rw[z4];show 13<16;omega)
  have tr:∀t,(t=0∨t=5∨t=6∨t=7)→(a4.put (some 13) (.bool true)).tmps.getD t undef=a.tmps.getD t undef:=by
   intro t ht
   rw[zmH (by rintro⟨⟩;omega),pr4 t (by rcases ht with rfl|rfl|rfl|rfl<;>simp),pr3 t (by rcases ht with rfl|rfl|rfl|rfl<;>simp),pr2 t (by rcases ht with rfl|rfl|rfl|rfl<;>simp)]
  obtain⟨B5,kp5,lt5⟩:=hK (k+1) w5 hJ5
  have hg5:=good _ _ kp5
  have s5:Sim ⟨Tryz.prog,w5,B5,Z0,⟨0,0⟩,16,[]⟩ ⟨[(0,.r (.v (.func (.yield yl) #[] #[]))),(5,.r (.sl 1 (nums .i64 l))),(6,.r (.v (.int .i64 (l.length:Int)))),(7,.r (.v (.int .i64 (k:Int)))),(13,.r (.v (.bool true)))],[],0⟩ (a4.put (some 13) (.bool true)) w5:=by
   refine zmK lt5 z5 d5 (by intro p hp;simp only[List.mem_cons,List.not_mem_nil,or_false]at hp;rcases hp with rfl|rfl|rfl|rfl|rfl<;>rfl) ?_
   intro p hp
   simp only[List.mem_cons,List.not_mem_nil,or_false]at hp
   rcases hp with rfl|rfl|rfl|rfl|rfl
   ·show AV.rep _ _ _ _ ((a4.put (some 13) (.bool true)).tmps.getD 0 undef);rw[tr 0 (by simp),t0,AV.rep,RV.rep]
   ·show AV.rep _ _ _ _ ((a4.put (some 13) (.bool true)).tmps.getD 5 undef);rw[tr 5 (by simp),t5,AV.rep];exact hg5
   ·show AV.rep _ _ _ _ ((a4.put (some 13) (.bool true)).tmps.getD 6 undef);rw[tr 6 (by simp),t6,AV.rep,RV.rep]
   ·show AV.rep _ _ _ _ ((a4.put (some 13) (.bool true)).tmps.getD 7 undef);rw[tr 7 (by simp),t7,AV.rep,RV.rep]
   ·show AV.rep _ _ _ _ ((a4.put (some 13) (.bool true)).tmps.getD 13 undef);rw[t13,AV.rep,RV.rep]
  refine zlC (fun S'=>Le ⟨0,0⟩ S' ⟨[(0,.r (.v (.func (.yield yl) #[] #[]))),(5,.r (.sl 1 (nums .i64 l))),(6,.r (.v (.int .i64 (l.length:Int)))),(7,.r (.v (.int .i64 (k:Int)))),(14,.r (.v (.bool false)))],[],0⟩) F0 rfl s5 ?_ ?_
  ·(repeat' (first|refine zad ?_|(refine zac (fun hb=>?_) (fun hb=>?_)<;>(try(exfalso;omega)))|fail))
   all_goals exact by(refine Le.mk [] [] zaj zal zbk zah)
  intro S6 a6 w6 hle6 hs6 pr6
  have s6:=hle6 _ _ _ rfl hs6
  show Code.wpIn Fence.wide n Tryz.prog _ _ a6 w6
  refine wpIn_cond_false (zhl s6 (t:=14) rfl) (wpIn_skip ?_)
  show Code.wpIn Fence.wide n Tryz.prog _ _ a6 w6
  have hw:IntKind.i64.wrap ((k:Int)+1)=((k+1:Nat):Int):=zaE k (by omega)
  refine zds (fun S'=>Le ⟨0,0⟩ S' ⟨[(0,.r (.v (.func (.yield yl) #[] #[]))),(6,.r (.v (.int .i64 (l.length:Int)))),(7,.r (.v (.int .i64 ((k+1:Nat):Int))))],[],0⟩) F0 rfl s6 ?_ ?_
  ·(repeat' (first|refine zad ?_|(refine zac (fun hb=>?_) (fun hb=>?_)<;>(try(exfalso;omega)))|fail))
   all_goals exact by(refine Le.mk [] [] zaj zal zbk zah)
  intro S7 a7 w7 hle7 hs7 pr7
  have s7:=hle7 _ _ _ rfl hs7
  obtain⟨z7,d7⟩:=zgC s7
  have h7:=zhl s7 (t:=7) rfl
  refine⟨⟨k+1,by omega,stab _ _ _ hJ5 (zfz s7),d7,z7,zhl s7 rfl,?_,zhl s7 rfl,h7⟩,?_⟩
  ·rw[pr7 5 (by simp),pr6 5 (by simp),tr 5 (by simp)];exact t5
  ·show l.length-(intOf (a7.tmps.getD 7 undef)).toNat<l.length-(intOf (a.tmps.getD 7 undef)).toNat
   rw[h7,t7]
   simp only[intOf]
   omega
 ·have hke:k=l.length:=by omega
  refine wpIn_seq ?_
  refine zds (fun S'=>Le ⟨0,0⟩ S' ⟨[(8,.r (.v (.bool false)))],[],0⟩) F0 rfl s1 ?_ ?_
  ·(repeat' (first|refine zad ?_|(refine zac (fun hb=>?_) (fun hb=>?_)<;>(try(exfalso;omega)))|fail))
   all_goals exact by(refine Le.mk [] [] zaj zal zbk zah)
  intro S2 a2 w2 hle2 hs2 pr2
  have s2:=hle2 _ _ _ rfl hs2
  obtain⟨z2,d2⟩:=zgC s2
  show Code.wpIn Fence.wide n Tryz.prog _ _ a2 w2
  refine wpIn_seq (wpIn_cond_false (zhl s2 (t:=8) rfl) (wpIn_exit ?_))
  refine⟨d2,_,results_none rfl _ _ _,⟨_,rfl⟩,?_⟩
  rw[List.length_map,←hke]
  exact stab _ _ _ hJ (zfz s2)
def itI (l:List Int):AV:=.cl 284 [.rp [.sl 1 (nums .i64 l)]]
theorem zh1 {B:Nat→Prop} {w:World} {sz:Nat} {es:List (List RV)} {u:Value} (h:RV.rep B w (.sl sz es) u):u.oneCell'=true:=by
 rw[RV.rep]at h
 obtain⟨A,c,rfl,_⟩:=h
 rfl
theorem zk8 (l:List Int):zam Tryz.prog 280 [.r (.sl 1 (nums .i64 l))] [] (itI l) []:=by
 refine zkd (fun _=>rfl) fun w Z M us hM hr=>?_
 rw[AV.reps]at hr
 obtain⟨u,us',rfl,h1,h2⟩:=hr
 rw[AV.reps]at h2
 subst h2
 rw[AV.rep]at h1
 have ho:=zh1 h1
 have key:CallsIn Fence.wide 1 Tryz.prog 280 #[u] w fun e w'=>e= .returned (.func (.func 284) #[] #[.pointer (some ⟨w.heap.size,0,none⟩)])∧w'=w.alloc (.cells #[u] 60):=by
  obtain⟨A,c,rfl,_⟩:∃A c,u= .slice A (nums .i64 l).length c∧True:=by
   rw[RV.rep]at h1;obtain⟨A,c,e,_⟩:=h1;exact⟨A,c,e,trivial⟩
  refine callsIn_of_wp Tryz.func280 rfl trivial ?_ rfl
  simp only[Tryz.ntmps280,List.size_toArray,List.length_cons,List.length_nil,Nat.reduceAdd,Nat.reduceSub,Array.replicate_succ,Array.replicate_zero,List.push_toArray,List.append_toArray,List.nil_append,List.cons_append]
  gi_wp2
  go_ret
  exact⟨rfl,rfl⟩
 refine Calls.mono (callsIn_wide.1 key) ?_
 rintro e w' ⟨rfl,rfl⟩
 have hb:Below w.heap.size w (w.alloc (.cells #[u] 60)):=(Below.refl _ _).alloc (Nat.le_refl _) _
 refine⟨_,rfl,hb,?_⟩
 unfold itI
 rw[AV.rep]
 refine⟨_,rfl,?_⟩
 rw[AV.reps]
 refine⟨_,[],rfl,?_,by rw[AV.reps]⟩
 rw[AV.rep]
 refine⟨_,rfl,by simp,fun h=>?_,?_⟩
 ·have :=hM _ h
  exact absurd this (Nat.lt_irrefl _)
 ·rw[RV.row]
  refine⟨⟨u,cell_one_new _ _ _ 0 u rfl,ho,RV.rep_mono (Go.Ab.Upto.of_below hb) (fun _ _ h=>h) _ _ h1⟩,by rw[RV.row];trivial⟩
end Go.Proofs.YthiioppfnmcclaaGreat
namespace Go.Proofs.YthiioppfnmcclaaGreat
open Go.RowKit Go.Ab Go.Wd
attribute [local go_sem] Oper.semAt_some
instance zo7:OnT Tryz.prog 317:=⟨by kernel_rfl⟩
instance zo6:OnT Tryz.prog 318:=⟨by kernel_rfl⟩
def mdF (e:Int) (s:(Nat×Int×Int)×List (Int×Int)) (v:Int):(Nat×Int×Int)×List (Int×Int):=
 if 0<s.1.1∧max s.1.2.2 v-min s.1.2.1 v≤2*e then((s.1.1+1,min s.1.2.1 v,max s.1.2.2 v),s.2)else((1,v,v),s.2++if s.1.1=0 then[]else[((s.1.1:Int),midv s.1.2.1 s.1.2.2)])
theorem zhP (e:Int):∀(l:List Int) (c:Nat) (a b:Int) (out:List (Int×Int)),out++mrG midv e l c a b=(l.foldl (mdF e) ((c,a,b),out)).2++mrG midv e [] (l.foldl (mdF e) ((c,a,b),out)).1.1 (l.foldl (mdF e) ((c,a,b),out)).1.2.1 (l.foldl (mdF e) ((c,a,b),out)).1.2.2
 |[],c,a,b,out=>rfl
 |v::l,c,a,b,out=>by
  have e1:mrG midv e (v::l) c a b=if 0<c∧max b v-min a v≤2*e then mrG midv e l (c+1) (min a v) (max b v)else(if c=0 then[]else[((c:Int),midv a b)])++mrG midv e l 1 v v:=by rw[mrG]
  rw[List.foldl_cons,e1]
  by_cases hc:0<c∧max b v-min a v≤2*e
  ·rw[if_pos hc,show mdF e ((c,a,b),out) v=((c+1,min a v,max b v),out) from if_pos hc]
   exact zhP e l (c+1) (min a v) (max b v) out
  ·rw[if_neg hc,show mdF e ((c,a,b),out) v=((1,v,v),out++if c=0 then[]else[((c:Int),midv a b)]) from if_neg hc,←List.append_assoc]
   exact zhP e l 1 v v _
def mdK (e:Int) (l:List Int) (k:Nat):(Nat×Int×Int)×List (Int×Int):=(l.take k).foldl (mdF e) ((0,0,0),[])
theorem zit (e:Int) {l:List Int} {k:Nat} {v:Int} (h:l[k]? =some v):mdK e l (k+1)=mdF e (mdK e l k) v:=by
 unfold mdK
 rw[List.take_add_one,h,List.foldl_append];rfl
theorem zis (e:Int) {l:List Int} (h:∀v∈l,In64 v):∀k,k≤l.length→(mdK e l k).1.1≤k∧(mdK e l k).2.length≤k∧(0<k→0<(mdK e l k).1.1)∧I64 (mdK e l k).1.2.1∧I64 (mdK e l k).1.2.2∧(mdK e l k).1.2.1≤(mdK e l k).1.2.2
 |0,_=>by simp[mdK,I64]
 |k+1,hk=>by
  obtain⟨h1,h2,h3,h4,h5,h6⟩:=zis e h k (by omega)
  have hx:l[k]? =some l[k]:=List.getElem?_eq_getElem hk
  have hv:=h _ (List.getElem_mem hk)
  rw[zit e hx]
  generalize l[k]=v at *
  generalize mdK e l k=s at *
  obtain⟨⟨c,a,b⟩,out⟩:=s
  dsimp only at *
  unfold mdF I64 In64 at *
  dsimp only
  split
  ·dsimp only;omega
  ·dsimp only
   refine⟨by omega,?_,by omega,hv,hv,by omega⟩
   rw[List.length_append]
   split <;>simp <;>omega
def asM (e:Int) (s:(Nat×Int×Int)×List (Int×Int)):List (Nat×Option Blk):=[(0,some (.var 320 [.r (.v (.func (.func 277) #[] #[])),.r (.v (.func (.func 278) #[] #[]))])),(1,some (.var 144 [.r (.v (.int .i64 e)),.r (.v (.int .i64 (s.1.1:Nat))),.r (.v (.int .i64 s.1.2.1)),.r (.v (.int .i64 s.1.2.2))])),(2,some (.var 98 [.ow 3])),(3,some (.row 153 2 (cons s.2)))]
theorem zlD (e:Int) (l:List Int) (he:0≤e∧e≤4611686018427387904) (h:∀v∈l,In64 v) (h1:1≤l.length) (hl:l.length≤1000000):zam Tryz.prog 279 [.ag [.r (.v (.func (.func 277) #[] #[])),.r (.v (.func (.func 278) #[] #[]))],.ag (vsA (mdV e 0 0 0)),itI l] [] (.fr 153 2 (cons (mrA midv e l))) []:=by
 have hlen:(nums .i64 l).length=l.length:=zao .i64 l
 refine zog (n:=4) Tryz.func279 rfl (Nat.le_of_ble_eq_true rfl) rfl fun C a w hP hC hN hdf hs=>?_
 have hN':C.N=31:=hN
 have cD0:([.r (.v (.func (.func 277) #[] #[])),.r (.v (.func (.func 278) #[] #[]))]:List AV)=[.r (.v (.func (.func 277) #[] #[])),.r (.v (.func (.func 278) #[] #[]))]:=rfl
 refine wpIn_seq (zlf (Q:=fun x S'=>x= .normal∧Le ⟨0,0⟩ S' ⟨[(2,itI l),(3,.pt 0 0),(4,.pt 1 0)],[(0,some (.var 320 [.r (.v (.func (.func 277) #[] #[])),.r (.v (.func (.func 278) #[] #[]))])),(1,some (.var 144 [.r (.v (.int .i64 e)),.r (.v (.int .i64 0)),.r (.v (.int .i64 0)),.r (.v (.int .i64 0))]))],2⟩) hP hC hs ?_ ?_)
 ·rw[hN']
  unfold itI
  (repeat' (first|refine zad ?_|(refine zac (fun hb=>?_) (fun hb=>?_)<;>(try(exfalso;omega)))|fail))
  exact⟨rfl,by(refine Le.mk [] [] zaj zal zbk zah)⟩
 rintro x S1 a1 w1 ⟨rfl,hle1⟩ hs1
 have s1:=hle1 C _ _ hC hs1
 show Code.wpIn Fence.wide 4 Tryz.prog _ _ a1 w1
 refine wpIn_seq (zlf (Q:=fun x S'=>x= .normal∧Le ⟨0,0⟩ S' ⟨[(2,itI l),(3,.pt 0 0),(4,.pt 1 0),(7,.pt 2 0)],[(0,some (.var 320 [.r (.v (.func (.func 277) #[] #[])),.r (.v (.func (.func 278) #[] #[]))])),(1,some (.var 144 [.r (.v (.int .i64 e)),.r (.v (.int .i64 0)),.r (.v (.int .i64 0)),.r (.v (.int .i64 0))])),(2,some (.var 98 [.r (.v (.slice none 0 0))]))],3⟩) hP hC s1 ?_ ?_)
 ·rw[hN']
  unfold itI
  (repeat' (first|refine zad ?_|(refine zac (fun hb=>?_) (fun hb=>?_)<;>(try(exfalso;omega)))|fail))
  exact⟨rfl,by(refine Le.mk [] [] zaj zal zbk zah)⟩
 rintro x S2 a2 w2 ⟨rfl,hle2⟩ hs2
 have s2:=(hle2 C _ _ hC hs2).nilvar (T':=153) (sz:=2) (i:=2) rfl
 show Code.wpIn Fence.wide 4 Tryz.prog _ _ a2 w2
 refine wpIn_seq (wpIn_seq (zlf (Q:=fun x S'=>x= .normal∧Le ⟨0,0⟩ S' ⟨[(3,.pt 0 0),(4,.pt 1 0),(7,.pt 2 0),(11,itI l)],asM e (mdK e l 0),4⟩) hP hC s2 ?_ ?_))
 ·rw[hN']
  unfold itI asM
  have h00:([]:List (List RV))=cons (mdK e l 0).2:=rfl
  have z1:(0:Int)=((mdK e l 0).1.1:Nat):=rfl
  have z2:(0:Int)=(mdK e l 0).1.2.1:=rfl
  have z3:(0:Int)=(mdK e l 0).1.2.2:=rfl
  rw[←z1,←z2,←z3]
  (repeat' (first|refine zad ?_|(refine zac (fun hb=>?_) (fun hb=>?_)<;>(try(exfalso;omega)))|fail))
  exact⟨rfl,by(refine Le.mk [] [] zaj zal zbk zah)⟩
 rintro x S3 a3 w3 ⟨rfl,hle3⟩ hs3
 obtain⟨Z3,K3,s3⟩:=SimK.of_sim (hle3 C _ _ hC hs3)
 show Code.wpIn Fence.wide 4 Tryz.prog _ _ a3 w3
 have sl:=s3.sim.slots 11
 have sl':AV.rep Z3 (Go.Ab.Own C (famH K3 (St.HF ⟨[(3,.pt 0 0),(4,.pt 1 0),(7,.pt 2 0),(11,itI l)],asM e (mdK e l 0),4⟩) []) Z3) w3 (itI l) (a3.tmps.getD 11 undef):=sl
 unfold itI at sl'
 rw[AV.rep]at sl'
 obtain⟨lb,e6,hlb⟩:=sl'
 refine wpIn_block (zl5 (n:=4) (E:=[(3,.pt 0 0),(4,.pt 1 0),(7,.pt 2 0),(11,itI l)]) (H:=fun k=>asM e (mdK e l k)) (nx:=4) (F:=[]) 3 (vs:=l.map iv64) (avs:=l.map fun x=>.r (.v (iv64 x))) hP hC hdf s3 (by rw[hN'];decide) (by omega) (by omega) ?hE e6 (enters_of Tryz.func284 (by kernel_rfl) rfl) (zh8 l hl hlb) ?hav ?hf0 ?hround ?hdone)
 case hE=>
  intro t i hi
  rcases get_mem (l:=[(3,AV.pt 0 0),(4,AV.pt 1 0),(7,AV.pt 2 0),(11,itI l)]) (t:=t)with e|e
  ·rw[e]at hi;cases hi
  ·simp only[List.mem_cons,List.not_mem_nil,or_false,Prod.mk.injEq]at e
   rcases e with⟨_,e⟩|⟨_,e⟩|⟨_,e⟩|⟨_,e⟩<;>rw[e]at hi<;>simp[itI,AV.ids,AV.idss]at hi<;>omega
 case hav=>
  intro k v hv
  rw[List.getElem?_map,Option.map_eq_some_iff]at hv
  obtain⟨x,hx,rfl⟩:=hv
  exact⟨.r (.v (iv64 x)),by rw[List.getElem?_map,hx];rfl,rfl,by rw[AV.rep,RV.rep]⟩
 case hf0=>
  intro k _
  rfl
 case hround=>
  intro k c hk hc F m hF
  rw[List.length_map]at hk
  rw[List.getElem?_map,Option.map_eq_some_iff]at hc
  obtain⟨v,hx,rfl⟩:=hc
  have hv:=h v (List.mem_of_getElem? hx)
  obtain⟨k1,k2,k3,k4,k5,k6⟩:=zis e h k (by omega)
  have hK:=zit e hx
  rw[hK,hN']
  clear hK
  generalize mdK e l k=s at *
  obtain⟨⟨c,a,b⟩,out⟩:=s
  dsimp only at k1 k2 k3 k4 k5 k6
  unfold itI asM iv64 mdF
  dsimp only
  refine zcY hF ?_
  have hol:=zcv out
  have hnil:cons out++[]=cons out:=List.append_nil _
  rcases Nat.eq_zero_or_pos c with h0|h0
  ·subst h0
   have cS:=zka e v a b
   rw[if_neg (by omega),if_pos rfl,List.append_nil]
   simp only[vsA,mdV,List.map_cons,List.map_nil]at cS
   (repeat' (first|refine zad ?_|(refine zac (fun hb=>?_) (fun hb=>?_)<;>(try(exfalso;omega)))|fail))
   refine⟨rfl,rfl,fun F m hF=>?_⟩
   refine zdz (ze7 (zcY hF ?_))
   (repeat' (first|refine zad ?_|((refine zdW ?_;refine zbt zbr [] _ _ (cS) za1 zbq zbF rfl rfl rfl zaa ?_);try dsimp only[AV.unfr,AV.unfrs,frsL,pairs,rdOf,@List.length_cons Blk,@List.length_nil Blk,@List.nil_append (Nat×Option Blk),@List.cons_append (Nat×Option Blk),@List.nil_append Blk,@List.cons_append Blk,Nat.add_zero,Nat.zero_add,Nat.reduceAdd])|(refine zac (fun hb=>?_) (fun hb=>?_)<;>(try(exfalso;omega)))|fail))
   show zeG _ _ _ _ _ _ _ _
   refine ze6 hF (by kernel_rfl) ?_
   (repeat' (first|refine zad ?_|(refine zac (fun hb=>?_) (fun hb=>?_)<;>(try(exfalso;omega)))|fail))
   refine⟨rfl,[(3,5)],rfl,?_,fun i hi=>by rcases(show i=0∨i=1∨i=2 by omega)with rfl|rfl|rfl<;>rfl⟩
   repeat' (first|exact zdR|refine zdS ?_ (by first|rfl|assumption) rfl|refine zdT ?_ ?_ rfl|refine ze9 ?_ rfl|refine zbo ?_ (by first|rfl|omega)|refine zcK ?_ rfl|exact CfL.nil)
  ·by_cases hw:max b v-min a v≤2*e
   ·have cS:=zkc e c v a b he ⟨by omega,by omega⟩ hv k4 k5 k6 hw
    rw[if_pos ⟨h0,hw⟩]
    dsimp only
    simp only[vsA,mdV,List.map_cons,List.map_nil]at cS
    generalize min a v=p at *
    generalize max b v=q at *
    (repeat' (first|refine zad ?_|(refine zac (fun hb=>?_) (fun hb=>?_)<;>(try(exfalso;omega)))|fail))
    refine⟨rfl,rfl,fun F m hF=>?_⟩
    refine zdz (ze7 (zcY hF ?_))
    (repeat' (first|refine zad ?_|((refine zdW ?_;refine zbt zbr [] _ _ (cS) za1 zbq zbF rfl rfl rfl zaa ?_);try dsimp only[AV.unfr,AV.unfrs,frsL,pairs,rdOf,@List.length_cons Blk,@List.length_nil Blk,@List.nil_append (Nat×Option Blk),@List.cons_append (Nat×Option Blk),@List.nil_append Blk,@List.cons_append Blk,Nat.add_zero,Nat.zero_add,Nat.reduceAdd])|(refine zac (fun hb=>?_) (fun hb=>?_)<;>(try(exfalso;omega)))|fail))
    show zeG _ _ _ _ _ _ _ _
    refine ze6 hF (by kernel_rfl) ?_
    (repeat' (first|refine zad ?_|(refine zac (fun hb=>?_) (fun hb=>?_)<;>(try(exfalso;omega)))|fail))
    refine⟨rfl,[(3,5)],rfl,?_,fun i hi=>by rcases(show i=0∨i=1∨i=2 by omega)with rfl|rfl|rfl<;>rfl⟩
    repeat' (first|exact zdR|refine zdS ?_ (by first|rfl|assumption) rfl|refine zdT ?_ ?_ rfl|refine ze9 ?_ rfl|refine zbo ?_ (by first|rfl|omega)|refine zcK ?_ rfl|exact CfL.nil)
   ·have cS:=zkb e c v a b he ⟨by omega,by omega⟩ hv k4 k5 k6 hw
    rw[if_neg (fun x=>hw x.2),if_neg (by omega)]
    dsimp only
    simp only[vsA,mdV,List.map_cons,List.map_nil]at cS
    have hA:=(cons_append out [((c:Int),midv a b)]).symm
    have ho1:=zcv [((c:Int),midv a b)]
    rw[List.length_singleton]at ho1
    generalize midv a b=q at *
    (repeat' (first|refine zad ?_|(refine zac (fun hb=>?_) (fun hb=>?_)<;>(try(exfalso;omega)))|fail))
    refine⟨rfl,rfl,fun F m hF=>?_⟩
    refine zdz (ze7 (zcY hF ?_))
    (repeat' (first|refine zad ?_|((refine zdW ?_;refine zbt zbr [] _ _ (cS) za1 zbq zbF rfl rfl rfl zaa ?_);try dsimp only[AV.unfr,AV.unfrs,frsL,pairs,rdOf,@List.length_cons Blk,@List.length_nil Blk,@List.nil_append (Nat×Option Blk),@List.cons_append (Nat×Option Blk),@List.nil_append Blk,@List.cons_append Blk,Nat.add_zero,Nat.zero_add,Nat.reduceAdd])|(refine zac (fun hb=>?_) (fun hb=>?_)<;>(try(exfalso;omega)))|fail))
    show zeG _ _ _ _ _ _ _ _
    refine ze6 hF (by kernel_rfl) ?_
    (repeat' (first|refine zad ?_|(refine zac (fun hb=>?_) (fun hb=>?_)<;>(try(exfalso;omega)))|fail))
    refine⟨rfl,[(3,6)],rfl,?_,fun i hi=>by rcases(show i=0∨i=1∨i=2 by omega)with rfl|rfl|rfl<;>rfl⟩
    repeat' (first|exact zdR|refine zdS ?_ (by first|rfl|assumption) rfl|refine zdT ?_ ?_ rfl|refine ze9 ?_ rfl|refine zbo ?_ (by first|rfl|omega)|refine zcK ?_ rfl|exact CfL.nil)
 case hdone=>
  intro D Z' K' W' hS
  show Code.wpIn Fence.wide 4 Tryz.prog _ _ _ _
  have hmr:mrA midv e l=(mdK e l l.length).2++[((((mdK e l l.length).1.1:Nat):Int),midv (mdK e l l.length).1.2.1 (mdK e l l.length).1.2.2)]:=by
   have :=zhP e l 0 0 0 []
   rw[List.nil_append]at this
   unfold mrA mdK
   rw[this,List.take_length,mrG,if_neg]
   have :=(zis e h l.length (Nat.le_refl _)).2.2.1 h1
   unfold mdK at this
   rw[List.take_length]at this
   omega
  rw[List.length_map]at hS
  obtain⟨k1,k2,k3,k4,k5,k6⟩:=zis e h l.length (Nat.le_refl _)
  have k3:=k3 h1
  rw[hmr]
  generalize mdK e l l.length=s at *
  obtain⟨⟨c,a,b⟩,out⟩:=s
  dsimp only at k1 k2 k3 k4 k5 k6 ⊢
  have cR:=ziu e c a b (by omega)
  unfold asM at hS
  dsimp only at hS
  have hol:=zcv out
  refine zn0 (C:={ C with df:=[{ target:=.collected D,args:= #[]}]}) (Q:=fun x S'=>(x= .normal∨x= .ret)∧zeF Tryz.prog ⟨0,0⟩ Tryz.f279 S' (.fr 153 2 (cons (out++[((c:Int),midv a b)]))) []) hP hC rfl hS ?_ ?_
  ·show awp _ _ C.N _ _ _
   rw[hN',cons_append]
   unfold itI
   have ho1:=zcv [((c:Int),midv a b)]
   rw[List.length_singleton]at ho1
   generalize midv a b=q at *
   simp only[vsA,mdV,List.map_cons,List.map_nil]at cR
   (repeat' (first|refine zad ?_|((refine zdW ?_;refine zbt zbr [] _ _ (cR) za1 zbq zbF rfl rfl rfl zaa ?_);try dsimp only[AV.unfr,AV.unfrs,frsL,pairs,rdOf,@List.length_cons Blk,@List.length_nil Blk,@List.nil_append (Nat×Option Blk),@List.cons_append (Nat×Option Blk),@List.nil_append Blk,@List.cons_append Blk,Nat.add_zero,Nat.zero_add,Nat.reduceAdd])|(refine zac (fun hb=>?_) (fun hb=>?_)<;>(try(exfalso;omega)))|fail))
   exact ret1 [] (.fr 5 _ _ _ rfl) rfl rfl rfl
  ·rintro e S' a' w' Z'' K'' ⟨h1,h2⟩ h3
   exact⟨h1,S',D,Z'',K'',h2,h3⟩
instance zpX:ZrT Tryz.prog 320 [.nilFunc,.nilFunc]:=⟨by kernel_rfl,by kernel_rfl⟩
theorem zm6 (e:Int) (l:List Int) (he:0≤e∧e≤4611686018427387904) (h:∀v∈l,In64 v) (h1:1≤l.length) (hl:l.length≤1000000):zam Tryz.prog 274 [.r (.sl 1 (nums .i64 l)),.r (.v (.int .i64 e))] [] (.tu [.fr 153 2 (cons (mrA midv e l)),.r (.v (.int .i64 0))]) []:=by
 have hlen:(nums .i64 l).length=l.length:=zao .i64 l
 have e0:((nums .i64 l).length:Int)=(l.length:Int):=by rw[hlen]
 have cS:=zj9 e he
 have cV:=zk8 l
 have cA:=zlD e l he h h1 hl
 generalize mrA midv e l=M at *
 simp only[vsA,mdV,List.map_cons,List.map_nil]at cS cA
 unfold itI at *
 refine zaA Tryz.func274 rfl (Nat.le_of_ble_eq_true rfl) rfl rfl ?_
 (repeat' (first|refine zad ?_|(refine is_f 276 ?_;refine zag (cS) ?_)|(refine is_f 280 ?_;refine zag (cV) ?_)|(refine is_f 279 ?_;refine zag (cA) ?_)|(refine zac (fun hb=>?_) (fun hb=>?_)<;>(try(exfalso;omega)))|fail))
 all_goals (first|(exfalso;omega)|exact ret2 [] (.fr 2 _ _ _ rfl) (.int rfl) rfl rfl rfl rfl)
instance zpJ:AgT Tryz.prog 75 0:=⟨by kernel_rfl⟩
instance zpI:AgT Tryz.prog 71 0:=⟨by kernel_rfl⟩
instance zpK:AgT Tryz.prog 73 0:=⟨by kernel_rfl⟩
def zok (P:Program) (t:Nat):Bool:=match P.underlying t with |some (.struct _)=>true|_=>false
theorem zg3 {P:Program} {t:Nat} (h:zok P t=true):∃fs,P.underlying t=some (.struct fs):=by
 unfold zok at h
 split at h
 ·rename_i fs e;exact⟨fs,e⟩
 ·cases h
theorem zoI:∃fs,Tryz.prog.underlying 75=some (.struct fs):=zg3 (by kernel_rfl)
theorem zoH:∃fs,Tryz.prog.underlying 71=some (.struct fs):=zg3 (by kernel_rfl)
instance zpZ:ZrT Tryz.prog 75 []:=⟨by kernel_rfl,by kernel_rfl⟩
instance zpY:ZrT Tryz.prog 71 []:=⟨by kernel_rfl,by kernel_rfl⟩
theorem zie:zam Tryz.prog 19 [.r (.v (.int .i64 2))] [] (.tu [.r (.v (.iface 75 (.agg #[]))),.r (.v (.bool true))]) []:=by
 obtain⟨fs,hu⟩:=zoI
 refine zaA Tryz.func19 rfl (Nat.le_of_ble_eq_true rfl) rfl rfl ?_
 (repeat' (first|(refine zca ?_;refine zaf rfl zaa (zep (cs:=[]) [] (by kernel_rfl) (by kernel_rfl) (fun i b h=>nomatch h)) ?_)|(refine id ?_;refine zaf rfl zaa (zoq hu rfl) ?_)|refine zad ?_|(refine zac (fun hb=>?_) (fun hb=>?_)<;>(try(exfalso;omega)))|fail))
 all_goals (first|(exfalso;omega)|exact ret2 [] (.r _) (.bool rfl) rfl rfl rfl rfl)
theorem zlG (l:List (Int×Int)) (e:Int) (he:0≤e∧e≤4611686018427387904) (h1:1≤l.length) (hl:l.length≤4096) (M:List (Int×Int)) (hM:M=mrA midv e (l.map Prod.snd)) (hv:∀v∈l.map Prod.snd,In64 v) (h:CsOk M):
  zam Tryz.prog 273 [.ag [],.r (.sl 2 (smps l)),.r (.v (.int .i64 e))] [] (.tu [.fr 5 1 (bys (conE M)),.r (.v (.int .i64 0))]) []:=by
 have cV:=zf2 l (by omega)
 have cM:=zm6 e (l.map Prod.snd) he hv (by rw[List.length_map];exact h1) (by rw[List.length_map];omega)
 rw[←hM]at cM
 have cE:=zlr M h
 refine zaA Tryz.func273 rfl (Nat.le_of_ble_eq_true rfl) rfl rfl ?_
 (repeat' (first|refine zad ?_|(refine is_f 191 ?_;refine zag (cV.freeze) ?_)|(refine is_f 274 ?_;refine zag (cM.freeze2) ?_)|(refine is_f 275 ?_;refine zag (cE) ?_)|(refine zac (fun hb=>?_) (fun hb=>?_)<;>(try(exfalso;omega)))|fail))
 all_goals (first|(exfalso;omega)|exact ret2 [] (.fr 1 _ _ _ rfl) (.int rfl) rfl rfl rfl rfl)
theorem znb:∀w,(Go.method (Tryz.prog.types.size+Made.depth) 75 (.agg #[]) "tscodec/chunk.encode").run Tryz.prog w= .ok (273,.agg #[]) w:=by
 intro w
 kernel_rfl
theorem zna:∀w,(Go.method (Tryz.prog.types.size+Made.depth) 75 (.agg #[]) "tscodec/chunk.decode").run Tryz.prog w= .ok (267,.agg #[]) w:=by
 intro w
 kernel_rfl
def hdS (b:List UInt8) (t n f l:Int) (a2 a3 a4:Nat):Nat→St
 |0=>⟨[(0,.r (.sl 1 (bys b))),(2,.pt 0 0),(3,.r (.v (.int .i64 (a2:Int)))),(75,.sv 1 2),(76,.r (.v (.int .i64 2))),(77,.r (.v (.int .i64 0)))],[(0,some (.var 40 [.r (.v (.int .i64 2)),.r (.v (.int .i64 t)),.r (.v (.int .i64 n)),.r (.v (.int .i64 0)),.r (.v (.int .i64 0))])),(1,some (.var 115 [.pt 0 3,.pt 0 4]))],2⟩
 |1=>⟨[(0,.r (.sl 1 (bys b))),(2,.pt 0 0),(3,.r (.v (.int .i64 (a3:Int)))),(75,.sv 1 2),(76,.r (.v (.int .i64 2))),(77,.r (.v (.int .i64 1)))],[(0,some (.var 40 [.r (.v (.int .i64 2)),.r (.v (.int .i64 t)),.r (.v (.int .i64 n)),.r (.v (.int .i64 f)),.r (.v (.int .i64 0))])),(1,some (.var 115 [.pt 0 3,.pt 0 4]))],2⟩
 |_+2=>⟨[(0,.r (.sl 1 (bys b))),(2,.pt 0 0),(3,.r (.v (.int .i64 (a4:Int)))),(75,.sv 1 2),(76,.r (.v (.int .i64 2))),(77,.r (.v (.int .i64 2)))],[(0,some (.var 40 [.r (.v (.int .i64 2)),.r (.v (.int .i64 t)),.r (.v (.int .i64 n)),.r (.v (.int .i64 f)),.r (.v (.int .i64 l))])),(1,some (.var 115 [.pt 0 3,.pt 0 4]))],2⟩
theorem zoi (b:List UInt8) (t n:Nat) (f l:Int) (a1 a2 a3 a4:Nat) (hb:b.length≤140737488355328) (h0:0<b.length) (hc:(b.getD 0 0).toNat=2) (h1:rdN b 1=(t,(a1:Int),0)) (ht:t≤4611686018427387904) (h2:rdN b (a1:Int)=(n,(a2:Int),0)) (hn:1≤n∧n≤4096)
  (h3:rdS b (a2:Int)=(f,(a3:Int),0)) (h4:rdS b (a3:Int)=(l,(a4:Int),0)) (ha:a1≤b.length∧a2≤b.length∧a3≤b.length∧a4≤b.length):
  zam Tryz.prog 44 [.r (.sl 1 (bys b))] [] (.tu [.ag [.r (.v (.int .i64 2)),.r (.v (.int .i64 (t:Int))),.r (.v (.int .i64 (n:Int))),.r (.v (.int .i64 f)),.r (.v (.int .i64 l))],.r (.v (.int .i64 (a4:Int))),.r (.v (.int .i64 0))]) []:=by
 have hbl:=zas b
 have hget:=zbw (l:=b) (j:=0) h0
 rw[hc]at hget
 have c1:=zb7 b 1 (by omega) (by unfold I64;omega)
 have c2:=zb7 b (a1:Int) (by omega) (by unfold I64;omega)
 have c3:=zdv b (a2:Int) (by omega) (by unfold I64;omega)
 have c4:=zdv b (a3:Int) (by omega) (by unfold I64;omega)
 rw[h1]at c1
 rw[h2]at c2
 rw[h3]at c3
 rw[h4]at c4
 dsimp only at c1 c2 c3 c4
 have e1:IntKind.i64.wrap ((t:Nat):Int)=(t:Int):=by rw[IntKind.wrap_i64];omega
 have e2:IntKind.i64.wrap ((n:Nat):Int)=(n:Int):=by rw[IntKind.wrap_i64];omega
 refine zaA Tryz.func44 rfl (Nat.le_of_ble_eq_true rfl) rfl rfl ?_
 (repeat' (first|refine zad ?_|(refine is_f 65 ?_;refine zag (c1) ?_)|(refine is_f 65 ?_;refine zag (c2) ?_)|(refine zac (fun hb=>?_) (fun hb=>?_)<;>(try(exfalso;omega)))|fail))
 all_goals (first|(exfalso;omega)|skip)
 refine zap (hdS b t n f l a2 a3 a4) (fun k=>k≤2) (fun k=>2-k) 0 (by omega) (by show Le _ _ (hdS b t n f l a2 a3 a4 0);(refine Le.mk [(0,0),(1,1)] [] zaj zal zan zah)) fun k hk=>?_
 change awp _ _ _ _ _ (hdS b t n f l a2 a3 a4 k)
 match k,hk with
 |0,_=>
  unfold hdS
  (repeat' (first|refine zad ?_|(refine is_f 66 ?_;refine zag (c3) ?_)|(refine zac (fun hb=>?_) (fun hb=>?_)<;>(try(exfalso;omega)))|fail))
  all_goals (first|(exfalso;omega)|exact⟨1,by omega,by show Le _ _ (hdS b t n f l a2 a3 a4 1);(refine Le.mk [(0,0),(1,1)] [] zaj zal zan zah),by show 2-1<2-0;omega⟩)
 |1,_=>
  unfold hdS
  (repeat' (first|refine zad ?_|(refine is_f 66 ?_;refine zag (c4) ?_)|(refine zac (fun hb=>?_) (fun hb=>?_)<;>(try(exfalso;omega)))|fail))
  all_goals (first|(exfalso;omega)|exact⟨2,by omega,by show Le _ _ (hdS b t n f l a2 a3 a4 2);(refine Le.mk [(0,0),(1,1)] [] zaj zal zan zah),by show 2-2<2-1;omega⟩)
 |2,_=>
  unfold hdS
  (repeat' (first|refine zad ?_|(refine zac (fun hb=>?_) (fun hb=>?_)<;>(try(exfalso;omega)))|fail))
  all_goals (first|(exfalso;omega)|exact zow [] (Rt.ag5 rfl rfl rfl rfl rfl) (.int rfl) (.int rfl) rfl rfl rfl rfl rfl rfl (zbp rfl) rfl)
end Go.Proofs.YthiioppfnmcclaaGreat
