/- Texts of the second layer in one: Cs1 Cs2 Rs5 Tq8 Tq9 Tr1. -/
import Derived.Test.YthiioppfnmcclaaGreatG19
import Derived.Test.YthiioppfnmcclaaGreatG18
import Derived.Test.YthiioppfnmcclaaGreatG4
set_option maxHeartbeats 4000000
set_option maxRecDepth 100000
set_option linter.unusedVariables false
set_option linter.unusedSimpArgs false
namespace Go.Proofs.YthiioppfnmcclaaGreat
open Go.RowKit Go.Ab Go.Wd
def acS (p:List UInt8) (c:List Int) (i:Nat):St:=⟨[(0,.ow 0),(6,.ow 2),(14,.ow 1),(15,.r (.v (.int .i64 (c.length:Int)))),(16,.r (.v (.int .i64 (i:Int))))],[(0,some (.row 5 1 (bys p))),(1,some (.row 3 1 (nums .i64 c))),(2,some (.row 49 1 (wns (upZ (cnL c) i))))],3⟩
theorem zns {S:St} {c:Blk} (h:getH S.H 1=some c) (hi:c.ids=[]):∀i b,(i,some b)∈zaM 0 [none,some c]→getH S.H i=some b∧b.ids=[]:=by
 intro i b hm
 simp[zaM]at hm
 obtain⟨rfl,rfl⟩:=hm
 exact⟨h,hi⟩
theorem zmx {c:List Int} (h1:∀x∈c,1≤x∧x≤4096):∀v∈cnL c,v<B64:=by
 intro v hv
 obtain⟨x,hx,rfl⟩:=List.mem_map.1 hv
 have :=h1 x hx
 rw[ze1];omega
theorem zhw (p:List UInt8) (c:List Int) (h1:∀x∈c,1≤x∧x≤4096) (hl:c.length≤4096) (hp:p.length≤1000):zam Tryz.prog 216 [.ow 0,.ow 1] [.row 5 1 (bys p),.row 3 1 (nums .i64 c)] (.tu [.fr 5 1 (bys (p++encN (cnL c))),.r (.v (.int .i64 0))]) [none,some (.row 3 1 (nums .i64 c))]:=by
 have hnl:=zao .i64 c
 have cN:=zdZ (cnL c) (zmx h1) (by rw[zbx];omega)
 have hel:=zbg (cnL c)
 rw[zbx]at hel
 have h00:=zhu (cnL c)
 rw[zbx,←hnl]at h00
 have h01:((nums .i64 c).length:Int)=(c.length:Int):=by rw[hnl]
 refine zaA Tryz.func216 rfl (Nat.le_of_ble_eq_true rfl) rfl rfl ?_
 (repeat' (first|refine zad ?_|(refine zac (fun hb=>?_) (fun hb=>?_)<;>(try(exfalso;omega)))|fail))
 refine zap (acS p c) (fun i=>i≤c.length) (fun i=>c.length-i) 0 (Nat.zero_le _) (by show Le _ _ (acS p c 0);(refine Le.mk [(0,0),(1,1),(2,2)] [] zaj zal zan zah)) fun i hi=>?_
 clear h00
 change awp _ _ _ _ _ (acS p c i)
 have hwl:(wns (upZ (cnL c) i)).length=c.length:=by rw[zbu,zk4 (by rw[zbx];exact hi),zbx]
 rcases Nat.lt_or_ge i c.length with hi'|hi'
 ·have hge1:=h1 _ (show c.getD i 0∈c by rw[List.getD_eq_getElem?_getD,List.getElem?_eq_getElem hi'];exact List.getElem_mem hi')
  have hx:(((cnL c).getD i 0:Nat):Int)=c.getD i 0-1:=by rw[zjQ hi'];omega
  have hE:(wns (upZ (cnL c) i)).set i [.v (.int .u64 (c.getD i 0-1))]=wns (upZ (cnL c) (i+1)):=by
   rw[←hx,zle,zk5 (by rw[zbx];exact hi')]
  have hgw:=zch (l:=upZ (cnL c) i) (i:=i) (by rw[zbu]at hwl;omega)
  have hcv2:IntKind.i64.wrap (c.getD i 0-1)=c.getD i 0-1:=by rw[IntKind.wrap_i64];omega
  have hcv:IntKind.u64.wrap (c.getD i 0-1)=c.getD i 0-1:=by rw[IntKind.wrap_u64];omega
  have hinc:=zaE i (by omega)
  clear cN
  unfold acS
  (repeat' (first|refine zad ?_|(refine zac (fun hb=>?_) (fun hb=>?_)<;>(try(exfalso;omega)))|fail))
  all_goals (first|(exfalso;omega)|exact⟨i+1,hi',by show Le _ _ (acS p c (i+1));(refine Le.mk [(0,0),(1,1),(2,2)] [] zaj zal zan zah),by show c.length-(i+1)<c.length-i;omega⟩)
 ·obtain rfl:i=c.length:=by omega
  have e1:upZ (cnL c) c.length=cnL c:=by rw[←zbx c];exact zk3 _
  have hbp:=zas p
  have hbe:=zas (encN (cnL c))
  have hA:=zbf p (encN (cnL c))
  unfold acS
  rw[e1,hA]
  generalize encN (cnL c)=E at *
  (repeat' (first|refine zad ?_|(refine is_f 41 ?_;refine zd2 (cN) ?_)|(refine zac (fun hb=>?_) (fun hb=>?_)<;>(try(exfalso;omega)))|fail))
  all_goals (first|(exfalso;omega)|exact zoZ [] (.fr 4 _ _ _ rfl) (.int rfl) rfl rfl rfl (zns rfl rfl) rfl)
structure CsOk (M:List (Int×Int)):Prop where
 one:∀x∈M.map Prod.fst,1≤x
 sum:(M.map Prod.fst).sum≤4096
 len:M.length≤4096
 vals:∀v∈M.map Prod.snd,In64 v
theorem CsOk.le {M:List (Int×Int)} (h:CsOk M):∀x∈M.map Prod.fst,1≤x∧x≤4096:=by
 have key:∀l:List Int,(∀x∈l,1≤x)→0≤l.sum∧∀x∈l,x≤l.sum:=by
  intro l
  induction l with
  |nil=>intro _;simp
  |cons y l ih=>
   intro h
   obtain⟨h1,h2⟩:=ih fun z hz=>h z (by simp[hz])
   have h3:=h y (by simp)
   rw[List.sum_cons]
   refine⟨by omega,fun x hx=>?_⟩
   rcases List.mem_cons.1 hx with rfl|hx
   ·omega
   ·have :=h2 x hx;omega
 intro x hx
 have :=(key _ h.one).2 x hx
 have :=h.sum
 exact⟨h.one x hx,by omega⟩
theorem zgd (M:List (Int×Int)):conE M=vb M.length++(encN (cnL (M.map Prod.fst))++resE (M.map Prod.snd)):=by
 unfold conE cnL;rw[List.map_map];rfl
def ceS (M:List (Int×Int)) (i:Nat):St:=⟨[(0,.r (.sl 2 (cons M))),(4,.ow 0),(5,.ow 1),(14,.r (.sl 2 (cons M))),(15,.r (.v (.int .i64 (M.length:Int)))),(16,.r (.v (.int .i64 (i:Int))))],[(0,some (.row 3 1 (nums .i64 ((M.map Prod.fst).take i)))),(1,some (.row 2 1 (nums .i64 ((M.map Prod.snd).take i))))],2⟩
theorem zdX {M:List (Int×Int)} {i:Nat} (h:i<M.length) (f:Int×Int→Int):nums .i64 ((M.map f).take i)++[[.v (.int .i64 (f (M.getD i (0,0))))]]=nums .i64 ((M.map f).take (i+1)):=by
 rw[zaI (M.map f) i (f (0,0)) (by rw[List.length_map];exact h),nums_append]
 congr 1
 simp[nums,h]
theorem zlr (M:List (Int×Int)) (h:CsOk M):zam Tryz.prog 275 [.r (.sl 2 (cons M))] [] (.tu [.fr 5 1 (bys (conE M)),.r (.v (.int .i64 0))]) []:=by
 have hcl:=zcv M
 have hML:=h.len
 have hsum:=h.sum
 have h01:((cons M).length:Int)=(M.length:Int):=by rw[hcl]
 have cS:=zo2 (M.map Prod.fst) h.one h.sum (by rw[List.length_map];exact h.len)
 have cV:=zbm [] M.length (by omega) (by simp)
 rw[List.nil_append]at cV
 have hvl:=zbe M.length
 have cA:=zhw (vb M.length) (M.map Prod.fst) h.le (by rw[List.length_map];exact h.len) (by omega)
 have cR:=zgx (M.map Prod.snd) h.vals (by rw[List.length_map];omega)
 have hel:=zbg (cnL (M.map Prod.fst))
 rw[zbx,List.length_map]at hel
 have hrl:=zdt (M.map Prod.snd)
 rw[List.length_map]at hrl
 have hE:=zgd M
 refine zaA Tryz.func275 rfl (Nat.le_of_ble_eq_true rfl) rfl rfl ?_
 (repeat' (first|refine zad ?_|(refine zac (fun hb=>?_) (fun hb=>?_)<;>(try(exfalso;omega)))|fail))
 all_goals (first|(exfalso;omega)|skip)
 refine zcl 4 3 1 rfl rfl ?_
 refine zcl 5 2 1 rfl rfl ?_
 have h00:([]:List (List RV))=nums .i64 ((M.map Prod.fst).take 0):=rfl
 have h02:([]:List (List RV))=nums .i64 ((M.map Prod.snd).take 0):=rfl
 refine zap (ceS M) (fun i=>i≤M.length) (fun i=>M.length-i) 0 (Nat.zero_le _) (by show Le _ _ (ceS M 0);(refine Le.mk [(0,0),(1,1)] [] zaj zal zan zah)) fun i hi=>?_
 clear h00 h02
 change awp _ _ _ _ _ (ceS M i)
 rcases Nat.lt_or_ge i M.length with hi'|hi'
 ·have hget:=zif (l:=M) (j:=i) hi'
  have hE1:=zdX hi' Prod.fst
  have hE2:=zdX hi' Prod.snd
  have hl1:(nums .i64 ((M.map Prod.fst).take i)).length=i:=by rw[zao,List.length_take,List.length_map];omega
  have hl2:(nums .i64 ((M.map Prod.snd).take i)).length=i:=by rw[zao,List.length_take,List.length_map];omega
  have hinc:=zaE i (by omega)
  clear cS cV cA cR hE
  unfold ceS
  generalize nums .i64 ((M.map Prod.fst).take i)=A1 at *
  generalize nums .i64 ((M.map Prod.snd).take i)=A2 at *
  (repeat' (first|refine zad ?_|(refine zac (fun hb=>?_) (fun hb=>?_)<;>(try(exfalso;omega)))|fail))
  all_goals (first|(exfalso;omega)|exact⟨i+1,hi',by show Le _ _ (ceS M (i+1));(refine Le.mk [(0,4),(1,6)] [] zaj zal zan zah),by show M.length-(i+1)<M.length-i;omega⟩)
 ·obtain rfl:i=M.length:=by omega
  have e1:(M.map Prod.fst).take M.length=M.map Prod.fst:=List.take_of_length_le (by rw[List.length_map];omega)
  have e2:(M.map Prod.snd).take M.length=M.map Prod.snd:=List.take_of_length_le (by rw[List.length_map];omega)
  have hcv:IntKind.u64.wrap (M.length:Int)=(M.length:Int):=by rw[IntKind.wrap_u64];omega
  have hb1:=zas (vb M.length++encN (cnL (M.map Prod.fst)))
  rw[List.length_append]at hb1
  have hb2:=zas (resE (M.map Prod.snd))
  have hA:=zbf (vb M.length++encN (cnL (M.map Prod.fst))) (resE (M.map Prod.snd))
  rw[List.append_assoc,←hE]at hA
  unfold ceS
  rw[e1,e2,hA]
  clear hE hA e1 e2
  generalize vb M.length++encN (cnL (M.map Prod.fst))=X at *
  generalize resE (M.map Prod.snd)=Y at *
  (repeat' (first|refine zad ?_|(refine is_f 228 ?_;refine zbH (cS) ?_)|(refine is_f 21 ?_;refine zag (cV) ?_)|(refine is_f 216 ?_;refine zl1 (cA) ?_)|(refine is_f 190 ?_;refine zbI (cR) ?_)|(refine zac (fun hb=>?_) (fun hb=>?_)<;>(try(exfalso;omega)))|fail))
  all_goals (first|(exfalso;omega)|exact ret2 [] (.fr 5 _ _ _ rfl) (.int rfl) rfl rfl rfl rfl)
def rwS (b:List UInt8) (D:List Int) (a e i:Nat):St:=⟨[(0,.r (.sl 1 (bys b))),(1,.r (.v (.int .i64 (a:Int)))),(10,.r (.v (.int .i64 (e:Int)))),(12,.ow 1),(58,.ow 0),(59,.r (.v (.int .i64 (D.length:Int)))),(60,.r (.v (.int .i64 (i:Int))))],[(0,some (.row 49 1 (wns (D.map zz)))),(1,some (.row 2 1 (nums .i64 (D.take i++(List.replicate D.length 0).drop i))))],2⟩
theorem zl8 (b:List UInt8) (a e:Nat) (l:List Int) (h:∀v∈l,In64 v) (hn:l.length≤65536) (hb:b.length≤140737488355328) (hab:a<b.length) (ho:(b.getD a 0).toNat≤2)
  (hd:decN b (a+1) l.length=((zaO difs (b.getD a 0).toNat l).map zz,e,0)) (he:a≤e∧e≤b.length) (hE:(b.drop a).take (e-a)=resE l):
  zam Tryz.prog 189 [.r (.sl 1 (bys b)),.r (.v (.int .i64 (a:Int))),.r (.v (.int .i64 (l.length:Int)))] [] (.tu [.fr 2 1 (nums .i64 l),.r (.v (.int .i64 (e:Int))),.r (.v (.int .i64 0))]) []:=by
 have hbl:=zas b
 have cN:=zfi b l.length (a+1) hb (by omega) (by omega) _ (.inl ⟨by rw[hd],rfl⟩)
 rw[hd]at cN
 dsimp only at cN
 clear hd
 have hget:=zbw (l:=b) (j:=a) hab
 have hDl:(zaO difs (b.getD a 0).toNat l).length=l.length:=za7 difs zbG _ l
 have hin:=zcO (f:=difs) (fun l h=>zfb h) (b.getD a 0).toNat l h
 have hback:=zhT (l:=l) (b.getD a 0).toNat h
 generalize zaO difs (b.getD a 0).toNat l=D at *
 have cS:=ziD 193 (by kernel_rfl) sums D (b.getD a 0).toNat ho (fun i _=>zoE _ (by rw[za7 sums ziI];omega))
 rw[hback]at cS
 have cR:=zgx l h hn
 have hel:=zdt l
 have cQ:=zig (resE l) ((b.drop a).take (e-a)) (by omega) true (by rw[hE];exact(decide_eq_true rfl).symm)
 have hm:=zjI b a e
 have hinc:=zaE a (by omega)
 have hml:(D.map zz).length=D.length:=List.length_map _
 have hwl:(wns (D.map zz)).length=D.length:=by rw[zbu,hml]
 have h01:((wns (D.map zz)).length:Int)=(D.length:Int):=by rw[hwl]
 have h00:List.replicate l.length (List.map RV.v [Value.int .i64 0])=nums .i64 (D.take 0++(List.replicate D.length 0).drop 0):=by
  rw[List.take_zero,List.nil_append,List.drop_zero,hDl];simp[nums]
 refine zaA Tryz.func189 rfl (Nat.le_of_ble_eq_true rfl) rfl rfl ?_
 have hcv:IntKind.i64.wrap (((b.getD a 0).toNat:Nat):Int)=(((b.getD a 0).toNat:Nat):Int):=by rw[IntKind.wrap_i64];omega
 (repeat' (first|refine zad ?_|(refine is_f 67 ?_;refine zag (cN) ?_)|(refine zac (fun hb=>?_) (fun hb=>?_)<;>(try(exfalso;omega)))|fail))
 all_goals (first|(exfalso;omega)|skip)
 refine zap (rwS b D a e) (fun i=>i≤D.length) (fun i=>D.length-i) 0 (Nat.zero_le _) (by show Le _ _ (rwS b D a e 0);(refine Le.mk [(0,0),(1,1)] [] zaj zal zan zah)) fun i hi=>?_
 clear h00
 change awp _ _ _ _ _ (rwS b D a e i)
 have hrl:(List.replicate D.length (0:Int)).length=D.length:=List.length_replicate
 have hnl:(nums .i64 (D.take i++(List.replicate D.length 0).drop i)).length=D.length:=by rw[zao,List.length_append,List.length_take,List.length_drop,hrl];omega
 rcases Nat.lt_or_ge i D.length with hi'|hi'
 ·have hE:(nums .i64 (D.take i++(List.replicate D.length 0).drop i)).set i [.v (.int .i64 (D.getD i 0))]=nums .i64 (D.take (i+1)++(List.replicate D.length 0).drop (i+1)):=by
   rw[zeP,zkf hrl.symm (by omega)]
  have hz:(D.map zz).getD i 0=zz (D.getD i 0):=by
   rw[List.getD_eq_getElem?_getD,List.getD_eq_getElem?_getD,List.getElem?_map,List.getElem?_eq_getElem hi'];rfl
  have hgw:=zch (l:=D.map zz) (i:=i) (by omega)
  have cU:=zeB ((D.map zz).getD i 0) (by rw[hz];exact zjy (zaY hin i))
  rw[show uz ((D.map zz).getD i 0)=D.getD i 0 by rw[hz,znX]]at cU
  have hinc:=zaE i (by omega)
  clear cN cS cR cQ
  have hMl:(D.take i++(List.replicate D.length 0).drop i).length=D.length:=by rw[←zao .i64];exact hnl
  unfold rwS
  generalize D.take i++(List.replicate D.length 0).drop i=M at *
  (repeat' (first|refine zad ?_|(refine is_f 68 ?_;refine zag (cU) ?_)|(refine zac (fun hb=>?_) (fun hb=>?_)<;>(try(exfalso;omega)))|fail))
  all_goals (first|(exfalso;omega)|exact⟨i+1,hi',by show Le _ _ (rwS b D a e (i+1));(refine Le.mk [(0,0),(1,1)] [] zaj zal zan zah),by show D.length-(i+1)<D.length-i;omega⟩)
 ·obtain rfl:i=D.length:=by omega
  have e1:D.take D.length++(List.replicate D.length 0).drop D.length=D:=by rw[List.take_length,List.drop_eq_nil_of_le (by omega),List.append_nil]
  unfold rwS
  rw[e1]
  generalize resE l=E at *
  (repeat' (first|refine zad ?_|(refine is_f 192 ?_;refine zl2 (cS) ?_)|(refine is_f 190 ?_;refine zbI (cR) ?_)|(refine is_f 104 ?_;refine zd2 (cQ) ?_)|(refine zac (fun hb=>?_) (fun hb=>?_)<;>(try(exfalso;omega)))|fail))
  all_goals (first|(exfalso;omega)|exact ret3 [] (.fr 1 _ _ _ rfl) (.int rfl) (.int rfl) rfl rfl rfl rfl rfl)
end Go.Proofs.YthiioppfnmcclaaGreat
namespace Go.Proofs.YthiioppfnmcclaaGreat
open Go.RowKit Go.Ab
def Smp (l:List (Int×Int)):Prop:=∀i,i<l.length→I64 (l.getD i (0,0)).1∧I64 (l.getD i (0,0)).2
def chkS (l:List (Int×Int)):Int:=if inc (l.map Prod.fst)then 0 else 7
theorem zmj (s:Int×Int):zam Tryz.prog 43 [.ag [.r (.v (.int .i64 s.1)),.r (.v (.int .i64 s.2))]] [] (.r (.v (.int .i64 s.1))) []:=by
 refine zaA Tryz.func43 rfl (Nat.le_of_ble_eq_true rfl) rfl rfl ?_
 (repeat' (first|refine zbj ?_|(refine zar (fun hb=>?_) (fun hb=>?_)<;>(try(exfalso;omega)))|fail))
 all_goals exact ret1 [] (.r _) rfl rfl rfl
def part (f:Int×Int→Int) (l:List (Int×Int)) (k:Nat):List (List RV):=nums .i64 ((l.take k).map f)++List.replicate (l.length-k) [.v (.int .i64 0)]
theorem zlS (f:Int×Int→Int) (l:List (Int×Int)) (k:Nat) (h:k≤l.length):(part f l k).length=l.length:=by
 unfold part;rw[List.length_append,zao,List.length_map,List.length_take,List.length_replicate];omega
theorem zlR (f:Int×Int→Int) (l:List (Int×Int)) (k:Nat) (h:k<l.length):(part f l k)[k]? =some [.v (.int .i64 0)]:=by
 unfold part
 rw[List.getElem?_append_right (by rw[zao,List.length_map,List.length_take];omega),zao,List.length_map,List.length_take,Nat.min_eq_left (by omega),Nat.sub_self,show l.length-k=(l.length-(k+1))+1 by omega,List.replicate_succ]
 rfl
theorem zlU (f:Int×Int→Int) (l:List (Int×Int)) (k:Nat) (h:k<l.length):(part f l k).set k [.v (.int .i64 (f (l.getD k (0,0))))]=part f l (k+1):=by
 unfold part
 have hl:(nums .i64 ((l.take k).map f)).length=k:=by rw[zao,List.length_map,List.length_take];omega
 rw[List.set_append_right _ _ (by omega),hl,Nat.sub_self,show l.length-k=(l.length-(k+1))+1 by omega,List.replicate_succ,List.set_cons_zero,zaI l k (0,0) h,List.map_append,nums_append,List.append_assoc]
 rfl
def fldS (g:Nat) (f:Int×Int→Int) (l:List (Int×Int)) (k:Nat):St:=
 ⟨[(1,.r (.v (.func (.func g) #[] #[]))),(5,.ow 0),(11,.r (.sl 2 (smps l))),(12,.r (.v (.int .i64 l.length))),(13,.r (.v (.int .i64 k)))],[(0,some (.row 2 1 (part f l k)))],1⟩
theorem zjW (g:Nat) (f:Int×Int→Int) (hg:∀s,zam Tryz.prog g [.ag [.r (.v (.int .i64 s.1)),.r (.v (.int .i64 s.2))]] [] (.r (.v (.int .i64 (f s)))) []) (hcb:zdJ Tryz.prog g=true) (l:List (Int×Int)) (hl:l.length≤8796093022000):zam Tryz.prog 42 [.r (.sl 2 (smps l)),.r (.v (.func (.func g) #[] #[]))] [] (.fr 2 1 (nums .i64 (l.map f))) []:=by
 refine zaA Tryz.func42 rfl (Nat.le_of_ble_eq_true rfl) rfl rfl ?_
 have hlen:(smps l).length=l.length:=zbQ l
 have h00:List.replicate (smps l).length (List.map RV.v [Value.int .i64 0])=part f l 0:=by unfold part;rw[hlen];rfl
 (repeat' (first|refine zbj ?_|(refine zar (fun hb=>?_) (fun hb=>?_)<;>(try(exfalso;omega)))|fail))
 refine zap (fldS g f l) (fun k=>k≤l.length) (fun k=>l.length-k) 0 (Nat.zero_le _) (by(refine Le.mk [(0,0)] [] rfl zgs zaT zah)) fun k hk=>?_
 have hpl:=zlS f l k hk
 by_cases hkl:k<l.length
 ·have hG:=zlR f l k hkl
  have hE:=zlU f l k hkl
  have hc:=hg (l.getD k (0,0))
  (repeat' (first|refine zbj ?_|((refine zdW ?_;refine zbt zbr [] _ _ (hc) zgr zbq zbF rfl rfl rfl zaa ?_);try dsimp only[AV.unfr,AV.unfrs,frsL,pairs,rdOf,@List.length_cons Blk,@List.length_nil Blk,@List.nil_append (Nat×Option Blk),@List.cons_append (Nat×Option Blk),@List.nil_append Blk,@List.cons_append Blk,Nat.add_zero,Nat.zero_add,Nat.reduceAdd])|(refine zar (fun hb=>?_) (fun hb=>?_)<;>(try(exfalso;omega)))|fail))
  all_goals exact⟨k+1,by show k+1≤l.length;omega,by(refine Le.mk [(0,0)] [] rfl zgs zaT zah),by show l.length-(k+1)<l.length-k;omega⟩
 ·have e:part f l k=nums .i64 (l.map f):=by unfold part;rw[List.take_of_length_le (by omega),show l.length-k=0 by omega];simp
  (repeat' (first|refine zbj ?_|(refine zar (fun hb=>?_) (fun hb=>?_)<;>(try(exfalso;omega)))|fail))
  all_goals (rw[←e];exact ret1 [] (.fr 0 _ _ _ rfl) rfl rfl rfl)
theorem zd6 (l:List (Int×Int)) (hl:l.length≤8796093022000):zam Tryz.prog 24 [.r (.sl 2 (smps l))] [] (.fr 2 1 (nums .i64 (l.map Prod.fst))) []:=by
 refine zaA Tryz.func24 rfl (Nat.le_of_ble_eq_true rfl) rfl rfl ?_
 (repeat' (first|refine zbj ?_|(refine is_f 42 ?_;refine zd1 (zjW 43 Prod.fst zmj (by kernel_rfl) l hl) ?_)|(refine zar (fun hb=>?_) (fun hb=>?_)<;>(try(exfalso;omega)))|fail))
 all_goals exact ret1 [] (.fr 0 _ _ _ rfl) rfl rfl rfl
theorem zgS (l:List (Int×Int)) (hl:l.length≤8796093022000):zam Tryz.prog 20 [.r (.sl 2 (smps l))] [] (.r (.v (.int .i64 (chkS l)))) []:=by
 refine zaA Tryz.func20 rfl (Nat.le_of_ble_eq_true rfl) rfl rfl ?_
 have hc:=zoj (l.map Prod.fst) (by rw[List.length_map];omega)
 cases hi:inc (l.map Prod.fst)with
 |true=>
  rw[hi]at hc
  have hr:(0:Int)=chkS l:=by unfold chkS;rw[hi];rfl
  (repeat' (first|refine zbj ?_|(refine is_f 24 ?_;refine zd1 (zd6 l hl) ?_)|(refine is_f 36 ?_;refine ziA (hc) ?_)|(refine zar (fun hb=>?_) (fun hb=>?_)<;>(try(exfalso;omega)))|fail))
  all_goals exact ret1 [] (.int hr) rfl rfl rfl
 |false=>
  rw[hi]at hc
  have hr:(7:Int)=chkS l:=by unfold chkS;rw[hi];rfl
  (repeat' (first|refine zbj ?_|(refine is_f 24 ?_;refine zd1 (zd6 l hl) ?_)|(refine is_f 36 ?_;refine ziA (hc) ?_)|(refine zar (fun hb=>?_) (fun hb=>?_)<;>(try(exfalso;omega)))|fail))
  all_goals exact ret1 [] (.int hr) rfl rfl rfl
theorem zk7 (s:Int×Int):zam Tryz.prog 195 [.ag [.r (.v (.int .i64 s.1)),.r (.v (.int .i64 s.2))]] [] (.r (.v (.int .i64 s.2))) []:=by
 refine zaA Tryz.func195 rfl (Nat.le_of_ble_eq_true rfl) rfl rfl ?_
 (repeat' (first|refine zbj ?_|(refine zar (fun hb=>?_) (fun hb=>?_)<;>(try(exfalso;omega)))|fail))
 all_goals exact ret1 [] (.r _) rfl rfl rfl
theorem zf2 (l:List (Int×Int)) (hl:l.length≤8796093022000):zam Tryz.prog 191 [.r (.sl 2 (smps l))] [] (.fr 2 1 (nums .i64 (l.map Prod.snd))) []:=by
 refine zaA Tryz.func191 rfl (Nat.le_of_ble_eq_true rfl) rfl rfl ?_
 (repeat' (first|refine zbj ?_|(refine is_f 42 ?_;refine zd1 (zjW 195 Prod.snd zk7 (by kernel_rfl) l hl) ?_)|(refine zar (fun hb=>?_) (fun hb=>?_)<;>(try(exfalso;omega)))|fail))
 all_goals exact ret1 [] (.fr 0 _ _ _ rfl) rfl rfl rfl
theorem zmr (x y:List Int) (k:Nat) (h:x.length=y.length) (hk:k<x.length):(x.zip y).take (k+1)=(x.zip y).take k++[(x.getD k 0,y.getD k 0)]:=by
 have hz:k<(x.zip y).length:=by rw[List.length_zip];omega
 have hy:k<y.length:=by omega
 rw[List.take_succ_eq_append_getElem hz]
 simp[hk,hy]
def zcP (x y:List Int) (k:Nat):List (List RV):=smps ((x.zip y).take k)++List.replicate (x.length-k) [.v (.int .i64 0),.v (.int .i64 0)]
theorem zhc (x y:List Int) (k:Nat) (h:x.length=y.length) (hk:k≤x.length):(zcP x y k).length=x.length:=by
 unfold zcP;rw[List.length_append,zbQ,List.length_take,List.length_zip,List.length_replicate];omega
theorem zhb (x y:List Int) (k:Nat) (h:x.length=y.length) (hk:k<x.length):(zcP x y k)[k]? =some [.v (.int .i64 0),.v (.int .i64 0)]:=by
 have hl:(smps ((x.zip y).take k)).length=k:=by rw[zbQ,List.length_take,List.length_zip];omega
 unfold zcP
 rw[List.getElem?_append_right (by omega),hl,Nat.sub_self,show x.length-k=(x.length-(k+1))+1 by omega,List.replicate_succ]
 rfl
theorem zhd (x y:List Int) (k:Nat) (h:x.length=y.length) (hk:k<x.length):(zcP x y k).set k (setA [.v (.int .i64 0),.v (.int .i64 0)] 0 [.v (.int .i64 (x.getD k 0)),.v (.int .i64 (y.getD k 0))])=zcP x y (k+1):=by
 have hl:(smps ((x.zip y).take k)).length=k:=by rw[zbQ,List.length_take,List.length_zip];omega
 unfold zcP
 rw[List.set_append_right _ _ (by omega),hl,Nat.sub_self,show x.length-k=(x.length-(k+1))+1 by omega,List.replicate_succ,List.set_cons_zero,zmr x y k h hk,za6,List.append_assoc]
 rfl
theorem zmz (x y:List Int) (h:x.length=y.length) (hl:x.length≤8796093022000):zam Tryz.prog 46 [.r (.sl 1 (nums .i64 x)),.r (.sl 1 (nums .i64 y))] [] (.tu [.fr 48 2 (smps (x.zip y)),.r (.v (.bool true))]) []:=by
 refine zaA Tryz.func46 rfl (Nat.le_of_ble_eq_true rfl) rfl rfl ?_
 have ex:(nums .i64 x).length=x.length:=zao .i64 x
 have ey:(nums .i64 y).length=y.length:=zao .i64 y
 have hzl:(x.zip y).length=x.length:=by rw[List.length_zip];omega
 have h00:List.replicate (nums .i64 x).length (List.map RV.v [Value.int .i64 0,Value.int .i64 0])=zcP x y 0:=by unfold zcP;rw[ex];rfl
 have hp0:(List.replicate (nums .i64 x).length (List.map RV.v [Value.int .i64 0,Value.int .i64 0])).length=x.length:=by rw[List.length_replicate,ex]
 (repeat' (first|refine zbj ?_|(refine zar (fun hb=>?_) (fun hb=>?_)<;>(try(exfalso;omega)))|fail))
 refine zap (fun k=>⟨[(0,.r (.sl 1 (nums .i64 x))),(1,.r (.sl 1 (nums .i64 y))),(6,.ow 0),(17,.r (.v (.int .i64 x.length))),(18,.r (.v (.int .i64 (k:Nat))))],[(0,some (.row 48 2 (zcP x y k)))],1⟩) (fun k=>k≤x.length) (fun k=>x.length-k) 0 (Nat.zero_le _) (by(refine Le.mk [(0,0)] [] rfl zgs zaT zah)) fun k hk=>?_
 have hpl:=zhc x y k h hk
 by_cases hkl:k<x.length
 ·have hG:=zhb x y k h hkl
  have hE:=zhd x y k h hkl
  (repeat' (first|refine zbj ?_|(refine zar (fun hb=>?_) (fun hb=>?_)<;>(try(exfalso;omega)))|fail))
  all_goals exact⟨k+1,by show k+1≤x.length;omega,by(refine Le.mk [(0,0)] [] rfl zgs zaT zah),by show x.length-(k+1)<x.length-k;omega⟩
 ·have e:zcP x y k=smps (x.zip y):=by unfold zcP;rw[List.take_of_length_le (by omega),show x.length-k=0 by omega];simp
  (repeat' (first|refine zbj ?_|(refine zar (fun hb=>?_) (fun hb=>?_)<;>(try(exfalso;omega)))|fail))
  all_goals (rw[←e];exact ret2 [] (.fr 0 _ _ _ rfl) (.r _) rfl rfl rfl rfl)
end Go.Proofs.YthiioppfnmcclaaGreat
