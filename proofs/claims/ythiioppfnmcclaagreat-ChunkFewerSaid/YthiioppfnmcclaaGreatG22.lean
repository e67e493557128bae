/- Texts of the second layer in one: Ch3 Rp1 Rb1 Sx2 Ch4 Ch5. -/
import Derived.Test.YthiioppfnmcclaaGreatG21
import Derived.Test.YthiioppfnmcclaaGreatG9
import Derived.Test.YthiioppfnmcclaaGreatG11
import Derived.Test.YthiioppfnmcclaaGreatG19
import Derived.Test.YthiioppfnmcclaaGreatG18
import Derived.Test.YthiioppfnmcclaaGreatG12
set_option maxHeartbeats 8000000
set_option maxRecDepth 100000
set_option linter.unusedVariables false
set_option linter.unusedSimpArgs false
namespace Go.Proofs.YthiioppfnmcclaaGreat
open Go.RowKit Go.Ab Go.Wd
def hdE (t n:Nat) (f l:Int):List UInt8:=[2]++vb t++vb n++vb (zz f)++vb (zz l)
def chE (t:Nat) (l:List (Int×Int)) (M:List (Int×Int)):List UInt8:=hdE t l.length (l.getD 0 (0,0)).1 (l.getD (l.length-1) (0,0)).1++stE (l.map Prod.fst)++conE M
theorem zjK (l:List (Int×Int)) (t:Nat) (he:t≤4611686018427387904) (h1:1≤l.length) (hl:l.length≤4096) (M:List (Int×Int)) (hM:M=mrA midv t (l.map Prod.snd)) (hv:∀v∈l.map Prod.snd,In64 v) (ht:∀v∈l.map Prod.fst,In64 v) (ha:Asc (l.map Prod.fst)) (h:CsOk M):
  zam Tryz.prog 8 [.r (.sl 2 (smps l)),.r (.v (.int .i64 2)),.r (.v (.int .i64 (t:Int)))] [] (.tu [.fr 5 1 (bys (chE t l M)),.r (.v (.int .i64 0))]) []:=by
 have hsl:=zbQ l
 have hml:(l.map Prod.fst).length=l.length:=List.length_map _
 have cC:=zgS l (by omega)
 rw[show chkS l=0 by unfold chkS;rw[zhK ha];rfl]at cC
 have cT:=(zd6 l (by omega)).freeze
 have cS:=(zkP (l.map Prod.fst) ht ha (by omega) (by omega)).freeze2
 have cE:=(zlG l t ⟨by omega,by omega⟩ h1 hl M hM hv h).freeze2
 have g0:=zdu (l:=l) (j:=0) (by omega)
 have g1:=zdu (l:=l) (j:=(smps l).length-1) (by omega)
 rw[show(smps l).length-1=l.length-1 by omega]at g1
 have gl:(((smps l).length-1:Nat):Int)=((l.length-1:Nat):Int):=by rw[hsl]
 have f1:I64 (l.getD 0 (0,0)).1:=by
  have :=zaY ht 0
  rwa [List.getD_eq_getElem?_getD,List.getElem?_map,List.getElem?_eq_getElem (by omega),Option.map_some,Option.getD_some,show l[0]=l.getD 0 (0,0) by rw[List.getD_eq_getElem?_getD,List.getElem?_eq_getElem (by omega)];rfl]at this
 have f2:I64 (l.getD (l.length-1) (0,0)).1:=by
  have :=zaY ht (l.length-1)
  rwa [List.getD_eq_getElem?_getD,List.getElem?_map,List.getElem?_eq_getElem (by omega),Option.map_some,Option.getD_some,show l[l.length-1]=l.getD (l.length-1) (0,0) by rw[List.getD_eq_getElem?_getD,List.getElem?_eq_getElem (by omega)];rfl]at this
 have b1:=zbe t
 have b2:=zbe l.length
 have b3:=zbe (zz (l.getD 0 (0,0)).1)
 have b4:=zbe (zz (l.getD (l.length-1) (0,0)).1)
 have c1:=zbm [2] t (by omega) (by simp)
 have c2:=zbm ([2]++vb t) l.length (by omega) (by simp only[List.length_append,List.length_cons,List.length_nil];omega)
 have c3:=zcc ([2]++vb t++vb l.length) (l.getD 0 (0,0)).1 f1 (by simp only[List.length_append,List.length_cons,List.length_nil];omega)
 have c4:=zcc ([2]++vb t++vb l.length++vb (zz (l.getD 0 (0,0)).1)) (l.getD (l.length-1) (0,0)).1 f2 (by simp only[List.length_append,List.length_cons,List.length_nil];omega)
 have hE:chE t l M=([2]++vb t++vb l.length++vb (zz (l.getD 0 (0,0)).1)++vb (zz (l.getD (l.length-1) (0,0)).1))++stE (l.map Prod.fst)++conE M:=rfl
 have d1:([2]++vb t++vb l.length++vb (zz (l.getD 0 (0,0)).1)++vb (zz (l.getD (l.length-1) (0,0)).1)).length≤41:=by simp only[List.length_append,List.length_cons,List.length_nil];omega
 have d2:=(zbg (stL (l.map Prod.fst))).2
 rw[zcV,hml]at d2
 change(stE (l.map Prod.fst)).length≤_ at d2
 have d3:(conE M).length≤1000000:=by
  have :=h.len
  have x1:=zbe M.length
  have x2:=(zbg (cnL (M.map Prod.fst))).2
  have x3:=(zdt (M.map Prod.snd)).2
  rw[zbx,List.length_map]at x2
  rw[List.length_map]at x3
  rw[zgd,List.length_append,List.length_append];omega
 have hb0:([[.v (.int .u8 2)]]:List (List RV))=bys [2]:=rfl
 rw[hE,zbf,zbf]
 generalize conE M=X at *
 generalize stE (l.map Prod.fst)=Y at *
 have q1:=zas ([2]++vb t++vb l.length++vb (zz (l.getD 0 (0,0)).1)++vb (zz (l.getD (l.length-1) (0,0)).1))
 have q2:=zas Y
 have q3:=zas X
 generalize[2]++vb t++vb l.length++vb (zz (l.getD 0 (0,0)).1)++vb (zz (l.getD (l.length-1) (0,0)).1)=B4 at *
 generalize[2]++vb t++vb l.length++vb (zz (l.getD 0 (0,0)).1)=B3 at *
 generalize[2]++vb t++vb l.length=B2 at *
 generalize[2]++vb t=B1 at *
 rw[←hb0]at c1
 rw[show l.length-1=(smps l).length-1 by omega]at c4
 have w1:IntKind.u8.wrap 2=2:=rfl
 have w2:IntKind.u64.wrap (t:Int)=(t:Int):=by rw[IntKind.wrap_u64];omega
 have w3:IntKind.u64.wrap ((smps l).length:Int)=(l.length:Int):=by rw[hsl,IntKind.wrap_u64];omega
 clear hE hM h hv ht ha
 refine zaA Tryz.func8 rfl (Nat.le_of_ble_eq_true rfl) rfl rfl ?_
 (repeat' (first|(refine zgH (rA:=.ag []) rfl znb (fun Z M w=>by rw[AV.rep];exact⟨#[],rfl,by rw[AV.reps]⟩) [] [] [] cE (.cons _ _ _ _ (.ag _ _ .nil) (by repeat' (first|exact zdL|refine cl_r ?_ rfl rfl|refine zdK ?_ (by first|omega|assumption) rfl|refine zgb ?_ ?_ rfl|exact CfL.nil))) (by kernel_rfl) (fun i b h=>by cases h) rfl rfl rfl (.inl ⟨rfl,rfl⟩) ?_)|refine zad ?_|(refine is_f 19 ?_;refine zag (zie) ?_)|(refine is_f 20 ?_;refine zag (cC) ?_)|(refine is_f 21 ?_;refine zbH (c1) ?_)|(refine is_f 21 ?_;refine zbI (c2) ?_)|(refine is_f 22 ?_;refine zd2 (c3) ?_)|(refine is_f 22 ?_;refine ziB (c4) ?_)|(refine is_f 24 ?_;refine zag (cT) ?_)|(refine is_f 23 ?_;refine zag (cS) ?_)|(refine zac (fun hb=>?_) (fun hb=>?_)<;>(try(exfalso;omega)))|fail))
 all_goals (first|(exfalso;omega)|exact ret2 [] (.fr 6 _ _ _ rfl) (.int rfl) rfl rfl rfl rfl)
theorem zjC (x y:Nat) (hx:x<B64) (hy:y<B64):zam Tryz.prog 271 [.r (.v (.int .u64 (x:Int))),.r (.v (.int .u64 (y:Int)))] [] (.tu [.r (.v (.int .u64 ((x*y/B64:Nat):Int))),.r (.v (.int .u64 ((x*y%B64:Nat):Int)))]) []:=by
 have hM:x*y%B64<B64:=Nat.mod_lt _ (by decide)
 have hD:x*y/B64<B64:=Nat.div_lt_of_lt_mul (Nat.mul_lt_mul'' hx hy)
 have cM:=zne x y hx hy
 generalize x*y/B64=a at *
 generalize x*y%B64=b at *
 rw[ze1]at hx hy hM hD
 have e1:IntKind.u64.wrap (x:Int)=(x:Int):=by rw[IntKind.wrap_u64];omega
 have e2:IntKind.u64.wrap (y:Int)=(y:Int):=by rw[IntKind.wrap_u64];omega
 have e3:IntKind.u64.wrap (a:Int)=(a:Int):=by rw[IntKind.wrap_u64];omega
 have e4:IntKind.u64.wrap (b:Int)=(b:Int):=by rw[IntKind.wrap_u64];omega
 refine zaA Tryz.func271 rfl (Nat.le_of_ble_eq_true rfl) rfl rfl ?_
 (repeat' (first|refine zad ?_|(refine is_f 169 ?_;refine zag (cM) ?_)|(refine zac (fun hb=>?_) (fun hb=>?_)<;>(try(exfalso;omega)))|fail))
 all_goals (first|(exfalso;omega)|exact ret2 [] (.int rfl) (.int rfl) rfl rfl rfl rfl)
def rpE (v:Int) (c k:Nat):List (List RV):=nums .i64 (List.replicate k v++List.replicate (c-k) 0)
theorem zh5 {v:Int} {c k:Nat} (h:k≤c):(rpE v c k).length=c:=by unfold rpE;rw[zao,List.length_append,List.length_replicate,List.length_replicate];omega
theorem zmb {v:Int} {c k q:Nat} (h:k+q≤c) (hq:q≤k):(rpE v c k).take k++(rpE v c k).take q++(rpE v c k).drop (k+q)=rpE v c (k+q):=by
 unfold rpE nums
 rw[←List.map_take,←List.map_take,←List.map_drop,←List.map_append,←List.map_append]
 congr 1
 rw[List.take_append_of_le_length (by simp),List.take_of_length_le (by simp),List.take_append_of_le_length (by simp;omega),List.take_replicate,Nat.min_eq_left hq,List.drop_append]
 rw[List.drop_eq_nil_of_le (by simp),List.nil_append,List.length_replicate,Nat.add_sub_cancel_left,List.drop_replicate,List.replicate_append_replicate,Nat.sub_sub]
theorem zo1 {v:Int} {c:Nat} (h:1≤c):(rpE v c 0).take 0++[[.v (.int .i64 v)]].take 1++(rpE v c 0).drop (0+1)=rpE v c 1:=by
 obtain⟨m,rfl⟩:∃m,c=m+1:=⟨c-1,by omega⟩
 simp[rpE,nums,List.replicate_succ]
def rpT (v:Int) (c cap k:Nat):St:=⟨[(7,.ow 1),(8,.r (.v (.int .i64 (k:Int))))],[(0,some (.row 2 1 [[.v (.int .i64 v)]])),(1,some (.rowk 2 1 (rpE v c k) (rpE v c k).length cap))],2⟩
theorem zkA (v:Int) (c:Nat) (hc:1≤c∧c≤4096):zam Tryz.prog 270 [.ow 0,.r (.v (.int .i64 (c:Int)))] [.row 2 1 [[.v (.int .i64 v)]]] (.fr 2 1 (nums .i64 (List.replicate c v))) [some (.row 2 1 [[.v (.int .i64 v)]])]:=by
 have cM:=zjC 1 c (by decide) (by rw[ze1];omega)
 rw[Nat.one_mul,show c/B64=0 from Nat.div_eq_of_lt (by rw[ze1];omega),show c%B64=c from Nat.mod_eq_of_lt (by rw[ze1];omega)]at cM
 have w1:IntKind.u64.wrap (([[.v (.int .i64 v)]]:List (List RV)).length:Int)=((1:Nat):Int):=rfl
 have w2:IntKind.u64.wrap (c:Int)=(c:Int):=by rw[IntKind.wrap_u64];omega
 have w3:IntKind.i64.wrap (c:Int)=(c:Int):=by rw[IntKind.wrap_i64];omega
 have h0:List.replicate c (List.map RV.v [Value.int .i64 0])=rpE v c 0:=by simp[rpE,nums]
 have hl0:=zh5 (v:=v) (c:=c) (k:=0) (by omega)
 have hne:List.replicate c (List.map RV.v [Value.int .i64 0])≠[]:=by
  intro e
  have :=congrArg List.length e
  simp at this;omega
 refine zaA Tryz.func270 rfl (Nat.le_of_ble_eq_true rfl) rfl rfl ?_
 (repeat' (first|(first|refine zeJ 7 ?_|refine zdI 7 ?_)|refine zeT ?_|refine zeV ?_|(refine is_f 271 ?_;refine zag (cM) ?_)|(refine zac (fun hb=>?_) (fun hb=>?_)<;>(try(exfalso;omega)))|fail))
 all_goals (first|(exfalso;omega)|skip)
 refine halt ?_
 have hneE:∀k,k≤c→rpE v c k≠[]:=fun k hk e=>by
  have :=zh5 (v:=v) hk
  rw[e,List.length_nil]at this;omega
 refine zjA (T:=⟨[(0,.ow 0),(7,.ow 1)],[(0,some (.row 2 1 [[.v (.int .i64 v)]])),(1,some (.row 2 1 (rpE v c 0)))],2⟩) (by(refine Le.mk [(0,0),(1,1)] [] zaj zal zan zah)) ?_
 refine zlk (i:=1) rfl (hneE 0 (by omega)) fun cap hcap=>?_
 rw[hl0]at hcap
 have hq1:Nat.min ([[.v (.int .i64 v)]]:List (List RV)).length (rpE v c 0).length=1:=by rw[hl0];exact Nat.min_eq_left hc.1
 have hE0:=zo1 (v:=v) hc.1
 (repeat' (first|(refine zla (i:=1) (j:=0) (.inl ⟨rfl,rfl,rfl⟩) (.inl ⟨rfl,rfl⟩) rfl rfl (.inl rfl) (hneE 0 (by omega)) (by simp) hq1 (by simp) (by omega) hE0 rfl (.inl ⟨rfl,rfl⟩) ?_)|refine zad ?_|(refine zac (fun hb=>?_) (fun hb=>?_)<;>(try(exfalso;omega)))|fail))
 refine zap (rpT v c cap) (fun k=>1≤k∧k≤c) (fun k=>c-k) 1 ⟨Nat.le_refl _,hc.1⟩ (by show Le _ _ (rpT v c cap 1);(refine Le.mk [(0,0),(1,1)] [] zaj zal zan zah)) fun k hk=>?_
 clear cM h0 hl0 hne hq1 hE0
 change awp _ _ _ _ _ (rpT v c cap k)
 have hlk:=zh5 (v:=v) hk.2
 rcases Nat.lt_or_ge k c with hlt|hge
 ·obtain⟨q,hq⟩:∃q,q=min k (c-k):=⟨_,rfl⟩
  have hq2:Nat.min k ((rpE v c k).length-k)=q:=by rw[hlk,hq]
  have hEk:=zmb (v:=v) (c:=c) (k:=k) (q:=q) (by omega) (by omega)
  have hadd:IntKind.i64.wrap ((k:Int)+(q:Int))=((k+q:Nat):Int):=by rw[IntKind.wrap_i64];omega
  have hnk:=hneE k hk.2
  unfold rpT
  (repeat' (first|(refine zaN ?_;refine zaf rfl zaa (zhW rfl rfl rfl rfl (by omega) (by omega) (by omega) hnk) ?_)|(refine zaN ?_;refine zaf rfl zaa (zhV rfl rfl rfl rfl (by omega) (by omega) hnk) ?_)|(refine zla (i:=1) (j:=1) (.inr ⟨_,rfl⟩) (.inr rfl) rfl rfl (.inr ⟨_,rfl⟩) hnk hnk hq2 (by omega) (by omega) hEk rfl (.inl ⟨rfl,rfl⟩) ?_)|refine zad ?_|(refine zac (fun hb=>?_) (fun hb=>?_)<;>(try(exfalso;omega)))|fail))
  all_goals (first|(exfalso;omega)|exact⟨k+q,⟨by omega,by omega⟩,by show Le _ _ (rpT v c cap (k+q));(refine Le.mk [(0,0),(1,1)] [] zaj zal zan zah),by show c-(k+q)<c-k;omega⟩)
 ·have e:rpE v c k=nums .i64 (List.replicate c v):=by
   obtain rfl:k=c:=by omega
   unfold rpE;rw[Nat.sub_self,List.replicate_zero,List.append_nil]
  unfold rpT
  refine ziU (i:=1) rfl ?_
  rw[e]at hlk ⊢
  (repeat' (first|refine zad ?_|(refine zac (fun hb=>?_) (fun hb=>?_)<;>(try(exfalso;omega)))|fail))
  all_goals (first|(exfalso;omega)|exact zcL [] (.fr 1 _ _ _ rfl) rfl rfl (zcC rfl rfl) rfl)
def exC (M:List (Int×Int)):List Int:=M.flatMap fun x=>List.replicate x.1.toNat x.2
theorem zi2 (A B:List (Int×Int)):exC (A++B)=exC A++exC B:=by unfold exC;rw[List.flatMap_append]
theorem zhE:∀M:List (Int×Int),(∀x∈M.map Prod.fst,1≤x)→((exC M).length:Int)=(M.map Prod.fst).sum
 |[],_=>rfl
 |x::M,h=>by
  have h1:=h x.1 (by simp)
  have h2:=zhE M fun y hy=>h y (by simp at hy ⊢;exact .inr hy)
  unfold exC at *
  rw[List.flatMap_cons,List.length_append,List.length_replicate,List.map_cons,List.sum_cons];omega
def rbS (M:List (Int×Int)) (k:Nat):St:=⟨[(3,.ow 0),(6,.r (.sl 2 (cons M))),(7,.r (.v (.int .i64 (M.length:Int)))),(8,.r (.v (.int .i64 (k:Int))))],[(0,some (.row 2 1 (nums .i64 (exC (M.take k)))))],1⟩
theorem zju (M:List (Int×Int)) (h:CsOk M):zam Tryz.prog 269 [.r (.sl 2 (cons M))] [] (.fr 2 1 (nums .i64 (exC M))) []:=by
 have hcl:=zcv M
 have hML:=h.len
 have h01:((cons M).length:Int)=(M.length:Int):=by rw[hcl]
 refine zaA Tryz.func269 rfl (Nat.le_of_ble_eq_true rfl) rfl rfl ?_
 (repeat' (first|refine zad ?_|(refine zac (fun hb=>?_) (fun hb=>?_)<;>(try(exfalso;omega)))|fail))
 refine zcl 3 2 1 rfl rfl ?_
 have h00:([]:List (List RV))=nums .i64 (exC (M.take 0)):=rfl
 refine zap (rbS M) (fun k=>k≤M.length) (fun k=>M.length-k) 0 (Nat.zero_le _) (by show Le _ _ (rbS M 0);(refine Le.mk [(0,0)] [] zaj zal zan zah)) fun k hk=>?_
 clear h00
 change awp _ _ _ _ _ (rbS M k)
 rcases Nat.lt_or_ge k M.length with hk'|hk'
 ·have hget:=zif (l:=M) (j:=k) hk'
  have hle:=h.le (M.getD k (0,0)).1 (by rw[List.getD_eq_getElem?_getD,List.getElem?_eq_getElem hk'];exact List.mem_map.2 ⟨_,List.getElem_mem hk',rfl⟩)
  have hcast:(((M.getD k (0,0)).1.toNat:Nat):Int)=(M.getD k (0,0)).1:=by omega
  have cR:=zkA (M.getD k (0,0)).2 (M.getD k (0,0)).1.toNat (by omega)
  rw[hcast]at cR
  have hE:nums .i64 (exC (M.take k))++nums .i64 (List.replicate (M.getD k (0,0)).1.toNat (M.getD k (0,0)).2)=nums .i64 (exC (M.take (k+1))):=by
   rw[zaI M k (0,0) hk',zi2,nums_append];simp[exC]
  have hl1:(nums .i64 (List.replicate (M.getD k (0,0)).1.toNat (M.getD k (0,0)).2)).length≤4096:=by rw[zao,List.length_replicate];omega
  have hl2:(nums .i64 (exC (M.take k))).length≤4096:=by
   rw[zao]
   have h1:=zhE (M.take k) fun x hx=>h.one x (by rw[List.map_take]at hx;exact List.mem_of_mem_take hx)
   have h2:=zhm h.one k
   have h3:=h.sum
   unfold smT at h2
   rw[List.map_take]at h1
   omega
  have hinc:=zaE k (by omega)
  unfold rbS
  generalize nums .i64 (exC (M.take k))=A1 at *
  generalize nums .i64 (List.replicate (M.getD k (0,0)).1.toNat (M.getD k (0,0)).2)=A2 at *
  (repeat' (first|refine zad ?_|(refine is_f 270 ?_;refine zl3 (cR) ?_)|(refine zac (fun hb=>?_) (fun hb=>?_)<;>(try(exfalso;omega)))|fail))
  all_goals (first|(exfalso;omega)|exact⟨k+1,hk',by show Le _ _ (rbS M (k+1));(refine Le.mk [(0,4)] [] zaj zal zan zah),by show M.length-(k+1)<M.length-k;omega⟩)
 ·have e:M.take k=M:=List.take_of_length_le hk'
  unfold rbS
  rw[e]
  (repeat' (first|refine zad ?_|(refine zac (fun hb=>?_) (fun hb=>?_)<;>(try(exfalso;omega)))|fail))
  all_goals (first|(exfalso;omega)|exact ret1 [] (.fr 0 _ _ _ rfl) rfl rfl rfl)
theorem zlF (p q:List UInt8) (M:List (Int×Int)) (tm:List Int) (e:Int) (h:CsOk M) (ht:(M.map Prod.fst).sum=tm.length) (hMt:M.length≤tm.length) (hb:(p++(conE M++q)).length≤140737488355328):
  zam Tryz.prog 267 [.ag [],.r (.sl 1 (bys (p++(conE M++q)))),.r (.v (.int .i64 (p.length:Int))),.r (.sl 1 (nums .i64 tm)),.r (.v (.int .i64 e))] [] (.tu [.fr 2 1 (nums .i64 (exC M)),.r (.v (.int .i64 (M.length:Int))),.r (.v (.int .i64 ((p.length+(conE M).length:Nat):Int))),.r (.v (.int .i64 0))]) []:=by
 have cD:=(zlq p q M tm.length h ht hMt hb).freeze3
 have cR:=zju M h
 have hnl:=zao .i64 tm
 have hcl:=zcv M
 rw[show(tm.length:Int)=((nums .i64 tm).length:Int) by rw[hnl], ]at cD
 rw[show(M.length:Int)=((cons M).length:Int) by rw[hcl]]
 generalize(conE M).length=n4 at *
 generalize p++(conE M++q)=b at *
 refine zfM Tryz.func267 rfl (Nat.le_of_ble_eq_true rfl) rfl rfl ?_
 (repeat' (first|refine zad ?_|(refine is_f 268 ?_;refine zag (cD) ?_)|(refine is_f 269 ?_;refine zag (cR) ?_)|(refine zac (fun hb=>?_) (fun hb=>?_)<;>(try(exfalso;omega)))|fail))
 all_goals (first|(exfalso;omega)|exact ret4 [] (.fr 1 _ _ _ rfl) (.int rfl) (.int rfl) (.int rfl) rfl rfl rfl rfl rfl rfl)
def syS (l:List Int) (e k:Nat):St:=⟨[(12,.r (.v (.int .i64 (e:Int)))),(14,.ow 1),(15,.r (.v (.int .u64 (bfs l k)))),(49,.ow 0),(50,.r (.v (.int .i64 ((stL l).length:Int)))),(51,.r (.v (.int .i64 (k:Int))))],[(0,some (.row 49 1 (wns (stL l)))),(1,some (.row 2 1 (nums .i64 (l.take (k+1)))))],2⟩
theorem zkO (b:List UInt8) (a e:Nat) (l:List Int) (h:∀v∈l,In64 v) (ha:Asc l) (h1:1≤l.length) (hn:l.length≤65536) (hb:b.length≤140737488355328) (hab:a≤b.length) (hd:decN b a (l.length-1)=(stL l,e,0)):
  zam Tryz.prog 45 [.r (.sl 1 (bys b)),.r (.v (.int .i64 (a:Int))),.r (.v (.int .i64 (l.getD 0 0))),.r (.v (.int .i64 (l.length:Int)))] [] (.tu [.fr 2 1 (nums .i64 l),.r (.v (.int .i64 (e:Int))),.r (.v (.int .i64 0))]) []:=by
 have hbl:=zas b
 have hsl:=zcV l
 have hwl:=zbu (stL l)
 have cN:=zfi b (l.length-1) a hb (by omega) hab _ (.inl ⟨by rw[hd],rfl⟩)
 rw[hd]at cN
 dsimp only at cN
 refine zaA Tryz.func45 rfl (Nat.le_of_ble_eq_true rfl) rfl rfl ?_
 have h00:[[RV.v (.int .i64 (l.getD 0 0))]]=nums .i64 (l.take (0+1)):=by
  match l,h1 with
  |x::l,_=>rfl
 (repeat' (first|refine zad ?_|(refine is_f 67 ?_;refine zag (cN) ?_)|(refine zac (fun hb=>?_) (fun hb=>?_)<;>(try(exfalso;omega)))|fail))
 all_goals (first|(exfalso;omega)|skip)
 refine zap (syS l e) (fun k=>k+1≤l.length) (fun k=>l.length-k) 0 h1 (by show Le _ _ (syS l e 0);(refine Le.mk [(0,0),(1,1)] [] zaj zal zan zah)) fun k hk=>?_
 change awp _ _ _ _ _ (syS l e k)
 have hr1:(nums .i64 (l.take (k+1))).length=k+1:=by rw[zao,List.length_take];omega
 have hr2:(l.take (k+1)).length=k+1:=by rw[List.length_take];omega
 rcases Nat.lt_or_ge (k+1) l.length with hlt|hge
 ·have gw0:=zch (l:=stL l) (i:=k) (by omega)
  have glast:(nums .i64 (l.take (k+1)))[k]? =some [.v (.int .i64 (l.getD k 0))]:=by
   rw[zbP (by omega)];simp[List.getElem?_take]
  have g1:=zaY h k
  have g2:=zaY h (k+1)
  have hasc:=ze5 ha hlt
  have hbf:bfs l (k+1)=l.getD (k+1) 0-l.getD k 0:=rfl
  have ht:(l.take (k+1)).getD k 0=l.getD k 0:=by simp[List.getElem?_take]
  have cD:=zjU 9223372036854775807 ((l.take (k+1)).getD k 0) (by unfold I64;omega) (by rw[ht];exact g1)
  unfold I64 at g1 g2
  rw[show dst 9223372036854775807 ((l.take (k+1)).getD k 0)=9223372036854775807-l.getD k 0 by rw[ht];unfold dst;split <;>omega]at cD
  have cA:=zjz ((l.take (k+1)).getD k 0) (bfs l (k+1))
  rw[show w64 ((l.take (k+1)).getD k 0+bfs l (k+1))=l.getD (k+1) 0 by rw[ht,hbf];unfold w64;omega]at cA
  have hE:nums .i64 (l.take (k+1))++[[.v (.int .i64 (l.getD (k+1) 0))]]=nums .i64 (l.take (k+1+1)):=by
   rw[zaI l (k+1) 0 hlt,nums_append];rfl
  have hinc:=zaE k (by omega)
  cases k with
  |zero=>
   have hv:(((stL l).getD 0 0:Nat):Int)+1=bfs l (0+1):=by rw[zoC hlt,hbf];simp only[Nat.zero_add]at *;omega
   have hw:IntKind.u64.wrap ((((stL l).getD 0 0:Nat):Int)+1)=bfs l (0+1):=by rw[hv,IntKind.wrap_u64];omega
   unfold syS
   clear cN hv
   (repeat' (first|refine zad ?_|(refine is_f 40 ?_;refine zag (cD) ?_)|(refine is_f 69 ?_;refine zag (cA) ?_)|(refine zac (fun hb=>?_) (fun hb=>?_)<;>(try(exfalso;omega)))|fail))
   all_goals (first|(exfalso;omega)|exact⟨0+1,hlt,by show Le _ _ (syS l e (0+1));(refine Le.mk [(0,0),(1,3)] [] zaj zal zan zah),by show l.length-(0+1)<l.length-0;omega⟩)
  |succ k=>
   have g0:=zaY h k
   unfold I64 at g0
   have hasc0:=ze5 ha (i:=k) (by omega)
   have hb0:bfs l (k+1)=l.getD (k+1) 0-l.getD k 0:=rfl
   have hv:(stL l).getD (k+1) 0=zz (w64 (bfs l (k+1+1)-bfs l (k+1))):=zkS (by omega)
   have cU:=zeB (zz (w64 (bfs l (k+1+1)-bfs l (k+1)))) (zjy (ziN _))
   rw[znX,←hv]at cU
   have c1:IntKind.u64.wrap (w64 (bfs l (k+1+1)-bfs l (k+1)))=(bfs l (k+1+1)-bfs l (k+1))%18446744073709551616:=by rw[IntKind.wrap_u64];unfold w64;omega
   have c2:IntKind.u64.wrap (bfs l (k+1)+(bfs l (k+1+1)-bfs l (k+1))%18446744073709551616)=bfs l (k+1+1):=by rw[IntKind.wrap_u64];omega
   unfold syS
   clear cN hv
   generalize w64 (bfs l (k+1+1)-bfs l (k+1))=W at *
   (repeat' (first|refine zad ?_|(refine is_f 40 ?_;refine zag (cD) ?_)|(refine is_f 68 ?_;refine zag (cU) ?_)|(refine is_f 69 ?_;refine zag (cA) ?_)|(refine zac (fun hb=>?_) (fun hb=>?_)<;>(try(exfalso;omega)))|fail))
   all_goals (first|(exfalso;omega)|exact⟨k+1+1,hlt,by show Le _ _ (syS l e (k+1+1));(refine Le.mk [(0,0),(1,3)] [] zaj zal zan zah),by show l.length-(k+1+1)<l.length-(k+1);omega⟩)
 ·have e':l.take (k+1)=l:=List.take_of_length_le (by omega)
  unfold syS
  rw[e']
  (repeat' (first|refine zad ?_|(refine zac (fun hb=>?_) (fun hb=>?_)<;>(try(exfalso;omega)))|fail))
  all_goals (first|(exfalso;omega)|exact ret3 [] (.fr 1 _ _ _ rfl) (.int rfl) (.int rfl) rfl rfl rfl rfl rfl)
theorem zgw (p r:List UInt8) (v:Int) (hv:In64 v):rdS (p++(vb (zz v)++r)) (p.length:Nat)=(v,((p.length+(vb (zz v)).length:Nat):Int),0):=by
 have h:=zdF p r (zz v) (zjy hv)
 unfold rdS
 rw[h]
 dsimp only
 rw[if_pos rfl,znX]
theorem zox {post:List (Option Blk)} {P:Program} {L:Ln} {fn:Func} {S:St} {a b c d x z q:AV} {cs:List AV} {t1 p t3 t4 ty i n:Nat} {T:TypeId} {F1 F2 F3 F4:List Nat} [hT:AgT P ty n] (G:List Nat) (h1:Rt (getH S.H) L.n G x a F1) (h2:Rt (getH S.H) L.n G (.ag cs) b F2) (h3:Rt (getH S.H) L.n G z c F3) (h4:Rt (getH S.H) L.n G q d F4) (hres:fn.results= #[.tmp t1,.cell p ty,.tmp t3,.tmp t4])
  (g1:get S.env t1=x) (hp:get S.env p= .pt i 0) (hi:getH S.H i=some (.var T cs)) (hl:cs.length=n) (g3:get S.env t3=z) (g4:get S.env t4=q) (hpo:∀i b,(i,some b)∈zaM 0 post→getH S.H i=some b∧b.ids=[]) (hn:zbl L (F1++(F2++(F3++(F4++[])))) G=true):(Exit.ret= .normal∨Exit.ret= .ret)∧zgL P L fn S (.tu [a,b,c,d]) post:=by
 obtain⟨e,k1,k2⟩:=hT.und
 exact zoy G (.tmp _ _ g1) (.agg _ _ _ _ _ _ hp hi k1 k2 (by rw[hT.size,hl])) (.tmp _ _ g3) (.tmp _ _ g4) h1 h2 h3 h4 hres hpo hn
theorem zmY (t:Nat) (tm:List Int) (M:List (Int×Int)) (he:t≤4611686018427387904) (h1:1≤tm.length) (hl:tm.length≤4096) (ht:∀v∈tm,In64 v) (ha:Asc tm) (h:CsOk M) (hs:(M.map Prod.fst).sum=tm.length) (hMt:M.length≤tm.length) (b:List UInt8)
  (hb:b=hdE t tm.length (tm.getD 0 0) (tm.getD (tm.length-1) 0)++stE tm++conE M) (ds:List AV) (hds:ds=[.r (.v (.int .i64 2)),.r (.v (.int .i64 (t:Int))),.r (.v (.int .i64 (tm.length:Int))),.r (.v (.int .i64 (tm.getD 0 0))),.r (.v (.int .i64 (tm.getD (tm.length-1) 0)))]):
  zam Tryz.prog 25 [.r (.sl 1 (bys b))] [] (.tu [.fr 48 2 (smps (tm.zip (exC M))),.ag ds,.r (.v (.int .i64 (M.length:Int))),.r (.v (.int .i64 0))]) []:=by
 have hnl:=zao .i64 tm
 have i0:=zaY ht 0
 have i1:=zaY ht (tm.length-1)
 have d2:=zbg (stL tm)
 rw[zcV]at d2
 have d3:(conE M).length≤1000000:=by
  have :=h.len
  have x1:=zbe M.length
  have x2:=(zbg (cnL (M.map Prod.fst))).2
  have x3:=(zdt (M.map Prod.snd)).2
  rw[zbx,List.length_map]at x2
  rw[List.length_map]at x3
  rw[zgd,List.length_append,List.length_append];omega
 have b1:=zbe t
 have b2:=zbe tm.length
 have b3:=zbe (zz (tm.getD 0 0))
 have b4:=zbe (zz (tm.getD (tm.length-1) 0))
 have hbl:b.length=1+(vb t).length+(vb tm.length).length+(vb (zz (tm.getD 0 0))).length+(vb (zz (tm.getD (tm.length-1) 0))).length+(encN (stL tm)).length+(conE M).length:=by
  rw[hb];unfold hdE stE;simp only[List.length_append,List.length_cons,List.length_nil]
 have e1:b=[2]++(vb t++(vb tm.length++vb (zz (tm.getD 0 0))++vb (zz (tm.getD (tm.length-1) 0))++stE tm++conE M)):=by rw[hb];unfold hdE;simp
 have e2:b=([2]++vb t)++(vb tm.length++(vb (zz (tm.getD 0 0))++vb (zz (tm.getD (tm.length-1) 0))++stE tm++conE M)):=by rw[hb];unfold hdE;simp
 have e3:b=([2]++vb t++vb tm.length)++(vb (zz (tm.getD 0 0))++(vb (zz (tm.getD (tm.length-1) 0))++stE tm++conE M)):=by rw[hb];unfold hdE;simp
 have e4:b=([2]++vb t++vb tm.length++vb (zz (tm.getD 0 0)))++(vb (zz (tm.getD (tm.length-1) 0))++(stE tm++conE M)):=by rw[hb];unfold hdE;simp
 have e5:b=hdE t tm.length (tm.getD 0 0) (tm.getD (tm.length-1) 0)++(encN (stL tm)++conE M):=by rw[hb];unfold stE;simp
 have e6:b=(hdE t tm.length (tm.getD 0 0) (tm.getD (tm.length-1) 0)++stE tm)++(conE M++[]):=by rw[hb];simp
 have r1:=zdF [2] (vb tm.length++vb (zz (tm.getD 0 0))++vb (zz (tm.getD (tm.length-1) 0))++stE tm++conE M) t (by rw[ze1];omega)
 rw[←e1]at r1
 have r2:=zdF ([2]++vb t) (vb (zz (tm.getD 0 0))++vb (zz (tm.getD (tm.length-1) 0))++stE tm++conE M) tm.length (by rw[ze1];omega)
 rw[←e2]at r2
 have r3:=zgw ([2]++vb t++vb tm.length) (vb (zz (tm.getD (tm.length-1) 0))++stE tm++conE M) (tm.getD 0 0) i0
 rw[←e3]at r3
 have r4:=zgw ([2]++vb t++vb tm.length++vb (zz (tm.getD 0 0))) (stE tm++conE M) (tm.getD (tm.length-1) 0) i1
 rw[←e4]at r4
 have r5:=zeK (hdE t tm.length (tm.getD 0 0) (tm.getD (tm.length-1) 0)) (conE M) (stL tm) (zkT ht)
 rw[←e5,zcV]at r5
 have k1:([2]++vb t).length=([2]:List UInt8).length+(vb t).length:=List.length_append
 have k2:([2]++vb t++vb tm.length).length=([2]++vb t).length+(vb tm.length).length:=List.length_append
 have k3:([2]++vb t++vb tm.length++vb (zz (tm.getD 0 0))).length=([2]++vb t++vb tm.length).length+(vb (zz (tm.getD 0 0))).length:=List.length_append
 have k4:(hdE t tm.length (tm.getD 0 0) (tm.getD (tm.length-1) 0)).length=([2]++vb t++vb tm.length++vb (zz (tm.getD 0 0))).length+(vb (zz (tm.getD (tm.length-1) 0))).length:=List.length_append
 have k5:(hdE t tm.length (tm.getD 0 0) (tm.getD (tm.length-1) 0)++stE tm).length=(hdE t tm.length (tm.getD 0 0) (tm.getD (tm.length-1) 0)).length+(encN (stL tm)).length:=List.length_append
 rw[←k1]at r1
 rw[←k2]at r2
 rw[←k3]at r3
 rw[←k4]at r4
 rw[←k5]at r5
 have k0:([2]:List UInt8).length=1:=rfl
 have hb0:(b.getD 0 0).toNat=2:=by rw[e1];rfl
 have cH:=zoi b t tm.length (tm.getD 0 0) (tm.getD (tm.length-1) 0) _ _ _ _ (by omega) (by omega) hb0 r1 he r2 ⟨h1,hl⟩ r3 r4 (by omega)
 have cD:=(zkO b _ _ tm ht ha h1 (by omega) (by omega) (by omega) r5).freeze3
 have cM:=(zlF (hdE t tm.length (tm.getD 0 0) (tm.getD (tm.length-1) 0)++stE tm) [] M tm t h hs hMt (by rw[←e6];omega)).freeze4
 rw[←e6]at cM
 have hxl:(exC M).length=tm.length:=by have :=zhE M h.one;omega
 have cJ:=zmz tm (exC M) hxl.symm (by omega)
 have hbb:=zas b
 have g1:=zbP (k:=.i64) (l:=tm) (j:=(nums .i64 tm).length-1) (by omega)
 have hlast:tm.getD ((nums .i64 tm).length-1) 0=tm.getD (tm.length-1) 0:=by rw[hnl]
 have hend:(hdE t tm.length (tm.getD 0 0) (tm.getD (tm.length-1) 0)++stE tm).length+(conE M).length=b.length:=by omega
 rw[hend]at cM
 clear r1 r2 r3 r4 r5 e1 e2 e3 e4 e5 e6 k0 k1 k2 k3 k4 hb0 hb hend h hs ha ht
 generalize(hdE t tm.length (tm.getD 0 0) (tm.getD (tm.length-1) 0)++stE tm).length=n5 at *
 generalize(hdE t tm.length (tm.getD 0 0) (tm.getD (tm.length-1) 0)).length=n4 at *
 rw[←hlast]at cH hds
 subst hds
 refine zfM Tryz.func25 rfl (Nat.le_of_ble_eq_true rfl) rfl rfl ?_
 (repeat' (first|(refine zgH (rA:=.ag []) rfl zna (fun Z M w=>by rw[AV.rep];exact⟨#[],rfl,by rw[AV.reps]⟩) [] [] [] cM (.cons _ _ _ _ (.ag _ _ .nil) (by repeat' (first|exact zdL|refine cl_r ?_ rfl rfl|refine zdK ?_ (by first|omega|assumption) rfl|refine zgb ?_ ?_ rfl|exact CfL.nil))) (by kernel_rfl) (fun i b h=>by cases h) rfl rfl rfl (.inl ⟨rfl,rfl⟩) ?_)|refine zad ?_|(refine is_f 44 ?_;refine zag (cH) ?_)|(refine is_f 45 ?_;refine zag (cD) ?_)|(refine is_f 19 ?_;refine zag (zie) ?_)|(refine is_f 46 ?_;refine zag (cJ) ?_)|(refine zac (fun hb=>?_) (fun hb=>?_)<;>(try(exfalso;omega)))|fail))
 all_goals (first|(exfalso;omega)|exact zox [] (.fr 2 _ _ _ rfl) (Rt.ag5 rfl rfl rfl rfl rfl) (.int rfl) (.int rfl) rfl rfl rfl rfl rfl rfl rfl (zbp rfl) rfl)
theorem zoz (b:List UInt8) (L:List (Int×Int)) (n:Nat) (c:List Int) (x1 x2 x3 x4 x5:Int) (cD:zam Tryz.prog 25 [.r (.sl 1 (bys b))] [] (.tu [.fr 48 2 (smps L),.ag [.r (.v (.int .i64 x1)),.r (.v (.int .i64 x2)),.r (.v (.int .i64 x3)),.r (.v (.int .i64 x4)),.r (.v (.int .i64 x5))],.r (.v (.int .i64 (n:Int))),.r (.v (.int .i64 0))]) []):
  zam Tryz.prog 9 [.r (.sl 1 (bys b))] [] (.tu [.r (.v (.int .i64 (n:Int))),.r (.v (.int .i64 0))]) []:=by
 refine zaA Tryz.func9 rfl (Nat.le_of_ble_eq_true rfl) rfl rfl ?_
 (repeat' (first|refine zad ?_|(refine is_f 25 ?_;refine zag (cD) ?_)|(refine zac (fun hb=>?_) (fun hb=>?_)<;>(try(exfalso;omega)))|fail))
 all_goals (first|(exfalso;omega)|exact ret2 [] (.int rfl) (.int rfl) rfl rfl rfl rfl)
theorem zid:zam Tryz.prog 19 [.r (.v (.int .i64 0))] [] (.tu [.r (.v (.iface 71 (.agg #[]))),.r (.v (.bool true))]) []:=by
 obtain⟨fs,hu⟩:=zoH
 refine zaA Tryz.func19 rfl (Nat.le_of_ble_eq_true rfl) rfl rfl ?_
 (repeat' (first|(refine zca ?_;refine zaf rfl zaa (zep (cs:=[]) [] (by kernel_rfl) (by kernel_rfl) (fun i b h=>nomatch h)) ?_)|(refine id ?_;refine zaf rfl zaa (zoq hu rfl) ?_)|refine zad ?_|(refine zac (fun hb=>?_) (fun hb=>?_)<;>(try(exfalso;omega)))|fail))
 all_goals (first|(exfalso;omega)|exact ret2 [] (.r _) (.bool rfl) rfl rfl rfl rfl)
theorem zlv (l:List (Int×Int)) (e:Int) (hl:l.length≤65536) (hv:∀v∈l.map Prod.snd,In64 v):
  zam Tryz.prog 188 [.ag [],.r (.sl 2 (smps l)),.r (.v (.int .i64 e))] [] (.tu [.fr 5 1 (bys (resE (l.map Prod.snd))),.r (.v (.int .i64 0))]) []:=by
 have cV:=(zf2 l (by omega)).freeze
 have cR:=zgx (l.map Prod.snd) hv (by rw[List.length_map];exact hl)
 refine zaA Tryz.func188 rfl (Nat.le_of_ble_eq_true rfl) rfl rfl ?_
 (repeat' (first|refine zad ?_|(refine is_f 191 ?_;refine zag (cV) ?_)|(refine is_f 190 ?_;refine zag (cR) ?_)|(refine zac (fun hb=>?_) (fun hb=>?_)<;>(try(exfalso;omega)))|fail))
 all_goals (first|(exfalso;omega)|exact ret2 [] (.fr 1 _ _ _ rfl) (.int rfl) rfl rfl rfl rfl)
theorem zlu (p q:List UInt8) (vl tm:List Int) (e:Int) (hvl:vl.length=tm.length) (hv:∀v∈vl,In64 v) (hn:vl.length≤65536) (hb:(p++(resE vl++q)).length≤140737488355328):
  zam Tryz.prog 187 [.ag [],.r (.sl 1 (bys (p++(resE vl++q)))),.r (.v (.int .i64 (p.length:Int))),.r (.sl 1 (nums .i64 tm)),.r (.v (.int .i64 e))] [] (.tu [.fr 2 1 (nums .i64 vl),.r (.v (.int .i64 ((nums .i64 vl).length:Int))),.r (.v (.int .i64 ((p.length+(resE vl).length:Nat):Int))),.r (.v (.int .i64 0))]) []:=by
 have cD:=zhf p q vl hv hn hb
 have hnl:=zao .i64 tm
 rw[show(vl.length:Int)=((nums .i64 tm).length:Int) by rw[hnl,hvl]]at cD
 generalize(resE vl).length=n4 at *
 generalize p++(resE vl++q)=b at *
 refine zfM Tryz.func187 rfl (Nat.le_of_ble_eq_true rfl) rfl rfl ?_
 (repeat' (first|refine zad ?_|(refine is_f 189 ?_;refine zag (cD) ?_)|(refine zac (fun hb=>?_) (fun hb=>?_)<;>(try(exfalso;omega)))|fail))
 all_goals (first|(exfalso;omega)|exact ret4 [] (.fr 1 _ _ _ rfl) (.int rfl) (.int rfl) (.int rfl) rfl rfl rfl rfl rfl rfl)
theorem zm9:∀w,(Go.method (Tryz.prog.types.size+Made.depth) 71 (.agg #[]) "tscodec/chunk.encode").run Tryz.prog w= .ok (188,.agg #[]) w:=by
 intro w
 kernel_rfl
theorem zm8:∀w,(Go.method (Tryz.prog.types.size+Made.depth) 71 (.agg #[]) "tscodec/chunk.decode").run Tryz.prog w= .ok (187,.agg #[]) w:=by
 intro w
 kernel_rfl
def hd0S (b:List UInt8) (t n f l:Int) (a2 a3 a4:Nat):Nat→St
 |0=>⟨[(0,.r (.sl 1 (bys b))),(2,.pt 0 0),(3,.r (.v (.int .i64 (a2:Int)))),(75,.sv 1 2),(76,.r (.v (.int .i64 2))),(77,.r (.v (.int .i64 0)))],[(0,some (.var 40 [.r (.v (.int .i64 0)),.r (.v (.int .i64 t)),.r (.v (.int .i64 n)),.r (.v (.int .i64 0)),.r (.v (.int .i64 0))])),(1,some (.var 115 [.pt 0 3,.pt 0 4]))],2⟩
 |1=>⟨[(0,.r (.sl 1 (bys b))),(2,.pt 0 0),(3,.r (.v (.int .i64 (a3:Int)))),(75,.sv 1 2),(76,.r (.v (.int .i64 2))),(77,.r (.v (.int .i64 1)))],[(0,some (.var 40 [.r (.v (.int .i64 0)),.r (.v (.int .i64 t)),.r (.v (.int .i64 n)),.r (.v (.int .i64 f)),.r (.v (.int .i64 0))])),(1,some (.var 115 [.pt 0 3,.pt 0 4]))],2⟩
 |_+2=>⟨[(0,.r (.sl 1 (bys b))),(2,.pt 0 0),(3,.r (.v (.int .i64 (a4:Int)))),(75,.sv 1 2),(76,.r (.v (.int .i64 2))),(77,.r (.v (.int .i64 2)))],[(0,some (.var 40 [.r (.v (.int .i64 0)),.r (.v (.int .i64 t)),.r (.v (.int .i64 n)),.r (.v (.int .i64 f)),.r (.v (.int .i64 l))])),(1,some (.var 115 [.pt 0 3,.pt 0 4]))],2⟩
theorem zm2 (b:List UInt8) (t n:Nat) (f l:Int) (a1 a2 a3 a4:Nat) (hb:b.length≤140737488355328) (h0:0<b.length) (hc:(b.getD 0 0).toNat=0) (ht0:t=0) (h1:rdN b 1=(t,(a1:Int),0)) (ht:t≤4611686018427387904) (h2:rdN b (a1:Int)=(n,(a2:Int),0)) (hn:1≤n∧n≤4096)
  (h3:rdS b (a2:Int)=(f,(a3:Int),0)) (h4:rdS b (a3:Int)=(l,(a4:Int),0)) (ha:a1≤b.length∧a2≤b.length∧a3≤b.length∧a4≤b.length):
  zam Tryz.prog 44 [.r (.sl 1 (bys b))] [] (.tu [.ag [.r (.v (.int .i64 0)),.r (.v (.int .i64 (t:Int))),.r (.v (.int .i64 (n:Int))),.r (.v (.int .i64 f)),.r (.v (.int .i64 l))],.r (.v (.int .i64 (a4:Int))),.r (.v (.int .i64 0))]) []:=by
 have hbl:=zas b
 have hget:=zbw (l:=b) (j:=0) h0
 rw[hc]at hget
 have c1:=zb7 b 1 (by omega) (by unfold I64;omega)
 have c2:=zb7 b (a1:Int) (by omega) (by unfold I64;omega)
 have c3:=zdv b (a2:Int) (by omega) (by unfold I64;omega)
 have c4:=zdv b (a3:Int) (by omega) (by unfold I64;omega)
 rw[h1]at c1
 rw[h2]at c2
 rw[h3]at c3
 rw[h4]at c4
 dsimp only at c1 c2 c3 c4
 have e1:IntKind.i64.wrap ((t:Nat):Int)=(t:Int):=by rw[IntKind.wrap_i64];omega
 have e2:IntKind.i64.wrap ((n:Nat):Int)=(n:Int):=by rw[IntKind.wrap_i64];omega
 refine zaA Tryz.func44 rfl (Nat.le_of_ble_eq_true rfl) rfl rfl ?_
 (repeat' (first|refine zad ?_|(refine is_f 65 ?_;refine zag (c1) ?_)|(refine is_f 65 ?_;refine zag (c2) ?_)|(refine zac (fun hb=>?_) (fun hb=>?_)<;>(try(exfalso;omega)))|fail))
 all_goals (first|(exfalso;omega)|skip)
 refine zap (hd0S b t n f l a2 a3 a4) (fun k=>k≤2) (fun k=>2-k) 0 (by omega) (by show Le _ _ (hd0S b t n f l a2 a3 a4 0);(refine Le.mk [(0,0),(1,1)] [] zaj zal zan zah)) fun k hk=>?_
 change awp _ _ _ _ _ (hd0S b t n f l a2 a3 a4 k)
 match k,hk with
 |0,_=>
  unfold hd0S
  (repeat' (first|refine zad ?_|(refine is_f 66 ?_;refine zag (c3) ?_)|(refine zac (fun hb=>?_) (fun hb=>?_)<;>(try(exfalso;omega)))|fail))
  all_goals (first|(exfalso;omega)|exact⟨1,by omega,by show Le _ _ (hd0S b t n f l a2 a3 a4 1);(refine Le.mk [(0,0),(1,1)] [] zaj zal zan zah),by show 2-1<2-0;omega⟩)
 |1,_=>
  unfold hd0S
  (repeat' (first|refine zad ?_|(refine is_f 66 ?_;refine zag (c4) ?_)|(refine zac (fun hb=>?_) (fun hb=>?_)<;>(try(exfalso;omega)))|fail))
  all_goals (first|(exfalso;omega)|exact⟨2,by omega,by show Le _ _ (hd0S b t n f l a2 a3 a4 2);(refine Le.mk [(0,0),(1,1)] [] zaj zal zan zah),by show 2-2<2-1;omega⟩)
 |2,_=>
  unfold hd0S
  (repeat' (first|refine zad ?_|(refine zac (fun hb=>?_) (fun hb=>?_)<;>(try(exfalso;omega)))|fail))
  all_goals (first|(exfalso;omega)|exact zow [] (Rt.ag5 rfl rfl rfl rfl rfl) (.int rfl) (.int rfl) rfl rfl rfl rfl rfl rfl (zbp rfl) rfl)
def hd0E (n:Nat) (f l:Int):List UInt8:=[0]++vb 0++vb n++vb (zz f)++vb (zz l)
def ch0E (l:List (Int×Int)):List UInt8:=hd0E l.length (l.getD 0 (0,0)).1 (l.getD (l.length-1) (0,0)).1++stE (l.map Prod.fst)++resE (l.map Prod.snd)
theorem zlm (l:List (Int×Int)) (t:Nat) (he:t≤4611686018427387904) (h1:1≤l.length) (hl:l.length≤4096) (hv:∀v∈l.map Prod.snd,In64 v) (ht:∀v∈l.map Prod.fst,In64 v) (ha:Asc (l.map Prod.fst)):
  zam Tryz.prog 8 [.r (.sl 2 (smps l)),.r (.v (.int .i64 0)),.r (.v (.int .i64 (t:Int)))] [] (.tu [.fr 5 1 (bys (ch0E l)),.r (.v (.int .i64 0))]) []:=by
 have hsl:=zbQ l
 have hml:(l.map Prod.fst).length=l.length:=List.length_map _
 have cC:=zgS l (by omega)
 rw[show chkS l=0 by unfold chkS;rw[zhK ha];rfl]at cC
 have cT:=(zd6 l (by omega)).freeze
 have cS:=(zkP (l.map Prod.fst) ht ha (by omega) (by omega)).freeze2
 have cE:=(zlv l 0 (by omega) hv).freeze2
 have g0:=zdu (l:=l) (j:=0) (by omega)
 have g1:=zdu (l:=l) (j:=(smps l).length-1) (by omega)
 rw[show(smps l).length-1=l.length-1 by omega]at g1
 have gl:(((smps l).length-1:Nat):Int)=((l.length-1:Nat):Int):=by rw[hsl]
 have f1:I64 (l.getD 0 (0,0)).1:=by
  have :=zaY ht 0
  rwa [List.getD_eq_getElem?_getD,List.getElem?_map,List.getElem?_eq_getElem (by omega),Option.map_some,Option.getD_some,show l[0]=l.getD 0 (0,0) by rw[List.getD_eq_getElem?_getD,List.getElem?_eq_getElem (by omega)];rfl]at this
 have f2:I64 (l.getD (l.length-1) (0,0)).1:=by
  have :=zaY ht (l.length-1)
  rwa [List.getD_eq_getElem?_getD,List.getElem?_map,List.getElem?_eq_getElem (by omega),Option.map_some,Option.getD_some,show l[l.length-1]=l.getD (l.length-1) (0,0) by rw[List.getD_eq_getElem?_getD,List.getElem?_eq_getElem (by omega)];rfl]at this
 have b1:=zbe 0
 have b2:=zbe l.length
 have b3:=zbe (zz (l.getD 0 (0,0)).1)
 have b4:=zbe (zz (l.getD (l.length-1) (0,0)).1)
 have c1:=zbm [0] 0 (by omega) (by simp)
 have c2:=zbm ([0]++vb 0) l.length (by omega) (by simp only[List.length_append,List.length_cons,List.length_nil];omega)
 have c3:=zcc ([0]++vb 0++vb l.length) (l.getD 0 (0,0)).1 f1 (by simp only[List.length_append,List.length_cons,List.length_nil];omega)
 have c4:=zcc ([0]++vb 0++vb l.length++vb (zz (l.getD 0 (0,0)).1)) (l.getD (l.length-1) (0,0)).1 f2 (by simp only[List.length_append,List.length_cons,List.length_nil];omega)
 have hE:ch0E l=([0]++vb 0++vb l.length++vb (zz (l.getD 0 (0,0)).1)++vb (zz (l.getD (l.length-1) (0,0)).1))++stE (l.map Prod.fst)++resE (l.map Prod.snd):=rfl
 have d1:([0]++vb 0++vb l.length++vb (zz (l.getD 0 (0,0)).1)++vb (zz (l.getD (l.length-1) (0,0)).1)).length≤41:=by simp only[List.length_append,List.length_cons,List.length_nil];omega
 have d2:=(zbg (stL (l.map Prod.fst))).2
 rw[zcV,hml]at d2
 change(stE (l.map Prod.fst)).length≤_ at d2
 have d3:(resE (l.map Prod.snd)).length≤1000000:=by
  have x3:=(zdt (l.map Prod.snd)).2
  rw[List.length_map]at x3
  omega
 have hb0:([[.v (.int .u8 0)]]:List (List RV))=bys [0]:=rfl
 rw[hE,zbf,zbf]
 generalize resE (l.map Prod.snd)=X at *
 generalize stE (l.map Prod.fst)=Y at *
 have q1:=zas ([0]++vb 0++vb l.length++vb (zz (l.getD 0 (0,0)).1)++vb (zz (l.getD (l.length-1) (0,0)).1))
 have q2:=zas Y
 have q3:=zas X
 generalize[0]++vb 0++vb l.length++vb (zz (l.getD 0 (0,0)).1)++vb (zz (l.getD (l.length-1) (0,0)).1)=B4 at *
 generalize[0]++vb 0++vb l.length++vb (zz (l.getD 0 (0,0)).1)=B3 at *
 generalize[0]++vb 0++vb l.length=B2 at *
 generalize[0]++vb 0=B1 at *
 rw[←hb0]at c1
 rw[show l.length-1=(smps l).length-1 by omega]at c4
 have w1:IntKind.u8.wrap 0=0:=rfl
 have w2:IntKind.u64.wrap 0=0:=rfl
 have w3:IntKind.u64.wrap ((smps l).length:Int)=(l.length:Int):=by rw[hsl,IntKind.wrap_u64];omega
 clear hE hv ht ha
 refine zaA Tryz.func8 rfl (Nat.le_of_ble_eq_true rfl) rfl rfl ?_
 (repeat' (first|(refine zgH (rA:=.ag []) rfl zm9 (fun Z M w=>by rw[AV.rep];exact⟨#[],rfl,by rw[AV.reps]⟩) [] [] [] cE (.cons _ _ _ _ (.ag _ _ .nil) (by repeat' (first|exact zdL|refine cl_r ?_ rfl rfl|refine zdK ?_ (by first|omega|assumption) rfl|refine zgb ?_ ?_ rfl|exact CfL.nil))) (by kernel_rfl) (fun i b h=>by cases h) rfl rfl rfl (.inl ⟨rfl,rfl⟩) ?_)|refine zad ?_|(refine is_f 19 ?_;refine zag (zid) ?_)|(refine is_f 20 ?_;refine zag (cC) ?_)|(refine is_f 21 ?_;refine zbH (c1) ?_)|(refine is_f 21 ?_;refine zbI (c2) ?_)|(refine is_f 22 ?_;refine zd2 (c3) ?_)|(refine is_f 22 ?_;refine ziB (c4) ?_)|(refine is_f 24 ?_;refine zag (cT) ?_)|(refine is_f 23 ?_;refine zag (cS) ?_)|(refine zac (fun hb=>?_) (fun hb=>?_)<;>(try(exfalso;omega)))|fail))
 all_goals (first|(exfalso;omega)|exact ret2 [] (.fr 6 _ _ _ rfl) (.int rfl) rfl rfl rfl rfl)
theorem zll (tm vl:List Int) (hvl:vl.length=tm.length) (hv:∀v∈vl,In64 v) (h1:1≤tm.length) (hl:tm.length≤4096) (ht:∀v∈tm,In64 v) (ha:Asc tm) (b:List UInt8)
  (hb:b=hd0E tm.length (tm.getD 0 0) (tm.getD (tm.length-1) 0)++stE tm++resE vl) (ds:List AV) (hds:ds=[.r (.v (.int .i64 0)),.r (.v (.int .i64 ((0:Nat):Int))),.r (.v (.int .i64 (tm.length:Int))),.r (.v (.int .i64 (tm.getD 0 0))),.r (.v (.int .i64 (tm.getD (tm.length-1) 0)))]):
  zam Tryz.prog 25 [.r (.sl 1 (bys b))] [] (.tu [.fr 48 2 (smps (tm.zip (vl))),.ag ds,.r (.v (.int .i64 ((nums .i64 vl).length:Int))),.r (.v (.int .i64 0))]) []:=by
 have hnl:=zao .i64 tm
 have i0:=zaY ht 0
 have i1:=zaY ht (tm.length-1)
 have d2:=zbg (stL tm)
 rw[zcV]at d2
 have d3:(resE vl).length≤1000000:=by
  have x3:=(zdt vl).2
  omega
 have b1:=zbe 0
 have b2:=zbe tm.length
 have b3:=zbe (zz (tm.getD 0 0))
 have b4:=zbe (zz (tm.getD (tm.length-1) 0))
 have hbl:b.length=1+(vb 0).length+(vb tm.length).length+(vb (zz (tm.getD 0 0))).length+(vb (zz (tm.getD (tm.length-1) 0))).length+(encN (stL tm)).length+(resE vl).length:=by
  rw[hb];unfold hd0E stE;simp only[List.length_append,List.length_cons,List.length_nil]
 have e1:b=[0]++(vb 0++(vb tm.length++vb (zz (tm.getD 0 0))++vb (zz (tm.getD (tm.length-1) 0))++stE tm++resE vl)):=by rw[hb];unfold hd0E;simp
 have e2:b=([0]++vb 0)++(vb tm.length++(vb (zz (tm.getD 0 0))++vb (zz (tm.getD (tm.length-1) 0))++stE tm++resE vl)):=by rw[hb];unfold hd0E;simp
 have e3:b=([0]++vb 0++vb tm.length)++(vb (zz (tm.getD 0 0))++(vb (zz (tm.getD (tm.length-1) 0))++stE tm++resE vl)):=by rw[hb];unfold hd0E;simp
 have e4:b=([0]++vb 0++vb tm.length++vb (zz (tm.getD 0 0)))++(vb (zz (tm.getD (tm.length-1) 0))++(stE tm++resE vl)):=by rw[hb];unfold hd0E;simp
 have e5:b=hd0E tm.length (tm.getD 0 0) (tm.getD (tm.length-1) 0)++(encN (stL tm)++resE vl):=by rw[hb];unfold stE;simp
 have e6:b=(hd0E tm.length (tm.getD 0 0) (tm.getD (tm.length-1) 0)++stE tm)++(resE vl++[]):=by rw[hb];simp
 have r1:=zdF [0] (vb tm.length++vb (zz (tm.getD 0 0))++vb (zz (tm.getD (tm.length-1) 0))++stE tm++resE vl) 0 (by rw[ze1];omega)
 rw[←e1]at r1
 have r2:=zdF ([0]++vb 0) (vb (zz (tm.getD 0 0))++vb (zz (tm.getD (tm.length-1) 0))++stE tm++resE vl) tm.length (by rw[ze1];omega)
 rw[←e2]at r2
 have r3:=zgw ([0]++vb 0++vb tm.length) (vb (zz (tm.getD (tm.length-1) 0))++stE tm++resE vl) (tm.getD 0 0) i0
 rw[←e3]at r3
 have r4:=zgw ([0]++vb 0++vb tm.length++vb (zz (tm.getD 0 0))) (stE tm++resE vl) (tm.getD (tm.length-1) 0) i1
 rw[←e4]at r4
 have r5:=zeK (hd0E tm.length (tm.getD 0 0) (tm.getD (tm.length-1) 0)) (resE vl) (stL tm) (zkT ht)
 rw[←e5,zcV]at r5
 have k1:([0]++vb 0).length=([0]:List UInt8).length+(vb 0).length:=List.length_append
 have k2:([0]++vb 0++vb tm.length).length=([0]++vb 0).length+(vb tm.length).length:=List.length_append
 have k3:([0]++vb 0++vb tm.length++vb (zz (tm.getD 0 0))).length=([0]++vb 0++vb tm.length).length+(vb (zz (tm.getD 0 0))).length:=List.length_append
 have k4:(hd0E tm.length (tm.getD 0 0) (tm.getD (tm.length-1) 0)).length=([0]++vb 0++vb tm.length++vb (zz (tm.getD 0 0))).length+(vb (zz (tm.getD (tm.length-1) 0))).length:=List.length_append
 have k5:(hd0E tm.length (tm.getD 0 0) (tm.getD (tm.length-1) 0)++stE tm).length=(hd0E tm.length (tm.getD 0 0) (tm.getD (tm.length-1) 0)).length+(encN (stL tm)).length:=List.length_append
 rw[←k1]at r1
 rw[←k2]at r2
 rw[←k3]at r3
 rw[←k4]at r4
 rw[←k5]at r5
 have k0:([0]:List UInt8).length=1:=rfl
 have hb0:(b.getD 0 0).toNat=0:=by rw[e1];rfl
 have cH:=zm2 b 0 tm.length (tm.getD 0 0) (tm.getD (tm.length-1) 0) _ _ _ _ (by omega) (by omega) hb0 rfl r1 (by omega) r2 ⟨h1,hl⟩ r3 r4 (by omega)
 have cD:=(zkO b _ _ tm ht ha h1 (by omega) (by omega) (by omega) r5).freeze3
 have cM:=(zlu (hd0E tm.length (tm.getD 0 0) (tm.getD (tm.length-1) 0)++stE tm) [] vl tm 0 hvl hv (by omega) (by rw[←e6];omega)).freeze4
 rw[←e6]at cM
 have cJ:=zmz tm vl hvl.symm (by omega)
 have hbb:=zas b
 have g1:=zbP (k:=.i64) (l:=tm) (j:=(nums .i64 tm).length-1) (by omega)
 have hlast:tm.getD ((nums .i64 tm).length-1) 0=tm.getD (tm.length-1) 0:=by rw[hnl]
 have hend:(hd0E tm.length (tm.getD 0 0) (tm.getD (tm.length-1) 0)++stE tm).length+(resE vl).length=b.length:=by omega
 rw[hend]at cM
 clear r1 r2 r3 r4 r5 e1 e2 e3 e4 e5 e6 k0 k1 k2 k3 k4 hb0 hb hend ha ht hv
 generalize(hd0E tm.length (tm.getD 0 0) (tm.getD (tm.length-1) 0)++stE tm).length=n5 at *
 generalize(hd0E tm.length (tm.getD 0 0) (tm.getD (tm.length-1) 0)).length=n4 at *
 rw[←hlast]at cH hds
 subst hds
 refine zfM Tryz.func25 rfl (Nat.le_of_ble_eq_true rfl) rfl rfl ?_
 (repeat' (first|(refine zgH (rA:=.ag []) rfl zm8 (fun Z M w=>by rw[AV.rep];exact⟨#[],rfl,by rw[AV.reps]⟩) [] [] [] cM (.cons _ _ _ _ (.ag _ _ .nil) (by repeat' (first|exact zdL|refine cl_r ?_ rfl rfl|refine zdK ?_ (by first|omega|assumption) rfl|refine zgb ?_ ?_ rfl|exact CfL.nil))) (by kernel_rfl) (fun i b h=>by cases h) rfl rfl rfl (.inl ⟨rfl,rfl⟩) ?_)|refine zad ?_|(refine is_f 44 ?_;refine zag (cH) ?_)|(refine is_f 45 ?_;refine zag (cD) ?_)|(refine is_f 19 ?_;refine zag (zid) ?_)|(refine is_f 46 ?_;refine zag (cJ) ?_)|(refine zac (fun hb=>?_) (fun hb=>?_)<;>(try(exfalso;omega)))|fail))
 all_goals (first|(exfalso;omega)|exact zox [] (.fr 2 _ _ _ rfl) (Rt.ag5 rfl rfl rfl rfl rfl) (.int rfl) (.int rfl) rfl rfl rfl rfl rfl rfl rfl (zbp rfl) rfl)
end Go.Proofs.YthiioppfnmcclaaGreat
