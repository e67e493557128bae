/- Texts of the second layer in one: Ai6 Ab37 Ab39 Mr1 Ai9 Ab40. -/
import Derived.Test.YthiioppfnmcclaaGreatG7
import Derived.Test.YthiioppfnmcclaaGreatG4
import Derived.Laws.MakeOwn
import Derived.Test.YthiioppfnmcclaaGreatG6
import Derived.Lib.LazyBuf
import Derived.KernelRfl
import Derived.OrdersIn
set_option linter.unusedVariables false
set_option linter.unusedSimpArgs false
namespace Go.Ab
open Go.RowKit
theorem zjJ {H:Nat→Option Blk} {ρ:Nat→Nat} {G:List Nat} {cs cs':List AV} {xs ys:List RV} (h:CfL H ρ G cs cs') (e:xs=ys):CfL H ρ G (.rp xs::cs) (.rp ys::cs'):=by subst e;exact .cons _ _ _ _ (.rp _) h
theorem Sim.nilvar {C:Cx} {S:St} {a:Act} {w:World} {i T T' sz:Nat} (h:Sim C S a w) (hi:S.HF i=some (.var T [.r (.v (.slice none 0 0))])):Sim C ⟨S.env,(i,some (.var T [.ow S.nx]))::(S.nx,some (.row T' sz []))::S.H,S.nx+1⟩ a w:=by
 obtain⟨Z,S0⟩:=h
 have hD:∀j,(fun i=>i<S.nx) j→j≠S.nx:=fun j hj e=>by subst e;exact absurd hj (Nat.lt_irrefl _)
 have hne:∀j b,S.HF j=some b→j≠S.nx:=fun j b hj=>hD j (S0.holds j b hj).2.1
 have hin:i≠S.nx:=hne i _ hi
 let Z':Nat→Value:=fun j=>if j=S.nx then .slice none 0 0 else Z j
 have hz:∀j,j≠S.nx→Z' j=Z j:=fun j hj=>if_neg hj
 have hzn:Z' S.nx= .slice none 0 0:=if_pos rfl
 have hH:∀j,St.HF ⟨S.env,(i,some (.var T [.ow S.nx]))::(S.nx,some (.row T' sz []))::S.H,S.nx+1⟩ j=if i=j then some (.var T [.ow S.nx])else if S.nx=j then some (.row T' sz [])else S.HF j:=fun j=>by
  show getH _ j=_
  rw[zcN,zcN];rfl
 generalize hHH:St.HF ⟨S.env,(i,some (.var T [.ow S.nx]))::(S.nx,some (.row T' sz []))::S.H,S.nx+1⟩=H2 at *
 have hB:∀x,x<w.heap.size→Own C H2 Z' x→Own C S.HF Z x:=by
  rintro x _ (h0|⟨j,b,hj,hb⟩)
  ·exact .inl h0
  ·rw[hH]at hj
   split at hj
   ·rename_i e;subst e;rw[hz i hin]at hb;exact .inr ⟨i,_,hi,hb⟩
   ·split at hj
    ·rename_i e;subst e;rw[hzn]at hb;cases hb
    ·rename_i e;rw[hz j (fun h=>e h.symm)]at hb;exact .inr ⟨j,b,hj,hb⟩
 have old:∀j b,H2 j=some b→j≠S.nx→∃b',S.HF j=some b':=by
  intro j b hj hn
  rw[hH]at hj
  split at hj
  ·rename_i e;subst e;exact⟨_,hi⟩
  ·rw[if_neg (fun e=>hn e.symm)]at hj;exact⟨b,hj⟩
 refine⟨Z',S0.size,S0.defers,S0.frame,S0.m0,fun u=>?_,fun u j hj=>Nat.lt_succ_of_lt (S0.ids u j hj),fun j b hj=>?_,fun j j' b c hj hj' hjj x hx=>?_,fun j b x hj hx=>?_,S0.lm,fun j hj=>?_⟩
 ·subst hHH
  exact AV.rep_mono (Upto.refl _) hB _ (fun j hj=>hz j (hD j (S0.ids u j hj))) _ (S0.slots u)
 ·subst hHH
  rw[hH]at hj
  split at hj
  ·rename_i e
   subst e
   injection hj with hj
   subst hj
   obtain⟨⟨q,us,g1,g2,g3,g4⟩,g5,_⟩:=S0.holds i _ hi
   refine⟨⟨q,us,(hz i hin).trans g1,g2,?_,g4⟩,Nat.lt_succ_of_lt g5,fun q hq=>by simp[Blk.ids,AV.idss,AV.ids]at hq;subst hq;exact Nat.lt_succ_self _⟩
   rw[AV.reps]at g3 ⊢
   obtain⟨u,us',e1,h1,h2⟩:=g3
   rw[AV.reps]at h2
   subst h2
   refine⟨u,[],e1,?_,by rw[AV.reps]⟩
   rw[AV.rep,RV.rep]at h1
   rw[AV.rep,hzn];exact h1
  ·split at hj
   ·rename_i e
    subst e
    injection hj with hj
    subst hj
    exact⟨⟨[],⟨by simp,.inl ⟨hzn,rfl⟩⟩,.nil,by simp⟩,Nat.lt_succ_self _,fun q hq=>by simp[Blk.ids]at hq⟩
   ·obtain⟨g1,g2,g3⟩:=S0.holds j b hj
    exact⟨g1.keep (Upto.refl _) hB (hz j (hne j b hj)) (fun q hq=>hz q (hD q (g3 q hq))) (fun _ _=>rfl),Nat.lt_succ_of_lt g2,fun q hq=>Nat.lt_succ_of_lt (g3 q hq)⟩
 ·by_cases h1:j=S.nx
  ·subst h1;rw[hzn]at hx;cases hx
  ·by_cases h2:j'=S.nx
   ·subst h2;rw[hzn];exact fun h=>by cases h
   ·obtain⟨b',k1⟩:=old j b (hHH▸hj) h1
    obtain⟨c',k2⟩:=old j' c (hHH▸hj') h2
    rw[hz j h1]at hx
    rw[hz j' h2]
    exact S0.dist j j' b' c' k1 k2 hjj x hx
 ·by_cases h1:j=S.nx
  ·subst h1;rw[hzn]at hx;cases hx
  ·obtain⟨b',k1⟩:=old j b (hHH▸hj) h1
   rw[hz j h1]at hx
   exact S0.fresh j b' x k1 hx
 ·obtain⟨g1,g2⟩:=S0.zl j hj
  exact⟨(hz j (hD j g2)).trans g1,Nat.lt_succ_of_lt g2⟩
theorem zkd {P:Program} {f:FuncId} {args:List AV} {r:AV} (hr:∀k,r.unfr k=(r,[])) (h:∀(w:World) (Z:Nat→Value) (M:Nat→Prop) (us:List Value),(∀x,M x→x<w.heap.size)→AV.reps Z M w args us→Calls P f us.toArray w fun e w'=>∃v,e= .returned v∧Below w.heap.size w w'∧AV.rep Z M w' r v):zam P f args [] r []:=by
 intro w Z M k us hM hk hargs hpre hdist
 refine Calls.mono (h w Z M us hM hargs) ?_
 rintro e w' ⟨v,rfl,hb,hv⟩
 have e1:zaq k [] r []=⟨true,[],r,[],[]⟩:=by unfold zaq;rw[hr];rfl
 refine⟨v,rfl,Z,?_⟩
 rw[e1]
 refine⟨fun _ _=>rfl,?_,fun i b h=>(nomatch h),fun j b h=>(by simp at h),fun j j' x h=>absurd h (Nat.not_lt_zero _),fun j x h=>absurd h (Nat.not_lt_zero _),Upto.of_below hb⟩
 refine AV.rep_mono (Upto.refl _) (fun x _ hx=>?_) r (fun _ _=>rfl) v hv
 rcases hx with hx|⟨j,hj,_⟩
 ·exact hx
 ·exact absurd hj (Nat.not_lt_zero _)
section
variable {P:Program} {n:Nat} {C:Cx} {S:St} {F:Fam} {a:Act} {w:World} {Z:Nat→Value} {K:Nat}
theorem zlf {L:Ln} {c:Code} {Q:Exit→St→Prop} {Q':Exit→Act→World→Prop} (hP:C.P=P) (hl:C.ln=L) (hs:Sim C S a w) (h:awp P L C.N c Q S) (k:∀e S' a' w',Q e S'→Sim C S' a' w'→Q' e a' w'):c.wpIn Fence.wide n P Q' a w:=
 wpIn_mono ((wpIn_wide (n:=n)).2 (h C hP hl rfl a w hs)) fun e a' w' ⟨S',h1,h2⟩=>k e S' a' w' h1 h2
theorem zn0 {c:Code} {Q:Exit→St→Prop} {Q':Exit→Act→World→Prop} (hP:C.P=P) (hl:C.ln=⟨0,0⟩) (hf:zlx S=true) (hs:SimK C S F a w Z K) (h:awp P ⟨S.nx,S.nx⟩ C.N c Q S) (k:∀e S' a' w' Z' K',Q e S'→SimK C S' F a' w' Z' K'→Q' e a' w'):c.wpIn Fence.wide n P Q' a w:=by
 obtain⟨C1,p1,p2,p3,q1,q2⟩:=hs.frameKp hl (full_of hf)
 refine wpIn_mono ((wpIn_wide (n:=n)).2 (h C1 (p1.trans hP) p3 p2 a w q1)) fun e a' w' ⟨S',h1,h2⟩=>?_
 obtain⟨Z',K',g1,_⟩:=q2 S' a' w' h2
 exact k e S' a' w' Z' K' h1 g1
theorem zog {f:FuncId} {fn:Func} {c:Code} {args:List AV} {r:AV} (hf:P.funcs[f]? =some fn) (hb:fn.body=some c) (hn:args.length≤fn.ntmps) (hok:ze4 args []=true)
  (h:∀(C:Cx) a w,C.P=P→C.ln=⟨0,0⟩→C.N=fn.ntmps→C.df=[]→Sim C (St0 args []) a w→c.wpIn Fence.wide n P (fun e a' w'=>(e= .normal∨e= .ret)∧∃S' D Z' K',zeF P ⟨0,0⟩ fn S' r []∧SimK { C with df:=[{ target:=.collected D,args:= #[]}]} S' [(.pointer (some ⟨D,0,none⟩),.obj (.deferred (some [])))] a' w' Z' K') a w):zam P f args [] r []:=by
 intro w Z M k us hM hk hargs hpre hdist
 unfold ze4 at hok
 simp only[Bool.and_eq_true,List.all_eq_true,za2]at hok
 obtain⟨o1,o2⟩:=hok
 have hlen:=AV.reps_len hargs
 let C:Cx:=⟨P,w,M,Z,⟨0,0⟩,fn.ntmps,[]⟩
 have hB:∀q,q<w.heap.size→Own C (St0 args []).HF Z q→M q:=by
  rintro q _ (h0|⟨i,b,h1,h2⟩)
  ·exact h0
  ·cases h1
 have S:Sim C (St0 args []) { tmps:=us.toArray++Array.replicate (fn.ntmps-us.toArray.size) undef,defers:=[]} w:=by
  refine⟨Z,by simp[C];omega,rfl,Upto.refl _,hM,fun t=>?_,fun t i hi=>?_,fun i b hb=>(nomatch hb),fun i j b c hi=>(nomatch hi),fun i b x hi=>(nomatch hi),Nat.le_refl _,fun i hi=>absurd hi (Nat.not_lt_zero _)⟩
  ·show(get (numE 0 args) t).rep _ _ _ _
   rw[zcx,if_pos (Nat.zero_le _),Nat.sub_zero,List.getD_eq_getElem?_getD]
   cases ht:args[t]? with
   |none=>simp only[Option.getD_none,AV.rep]
   |some x=>
    obtain⟨u,hu,hr⟩:=AV.reps_get hargs ht
    simp only[Option.getD_some]
    refine AV.rep_mono (Upto.refl _) hB x (fun _ _=>rfl) _ ?_
    have htl:t<us.length:=by
     rcases Nat.lt_or_ge t us.length with h'|h'
     ·exact h'
     ·rw[List.getElem?_eq_none h']at hu;cases hu
    have :(us.toArray++Array.replicate (fn.ntmps-us.toArray.size) undef).getD t undef=u:=by
     rw[Array.getD_eq_getD_getElem?,Array.getElem?_append_left (by simpa using htl)]
     simp[hu]
    rw[this];exact hr
  ·have hi':i∈(get (numE 0 args) t).ids:=hi
   rw[zcx,if_pos (Nat.zero_le _),Nat.sub_zero,List.getD_eq_getElem?_getD]at hi'
   cases ht:args[t]? with
   |none=>rw[ht]at hi';simp[AV.ids]at hi'
   |some x=>rw[ht]at hi';exact o1 i (za5 (List.mem_of_getElem? ht) hi')
 refine(callsIn_wide (n:=n)).1 (callsIn_of_wp_marks hf hb trivial (wpIn_mono (h C _ _ rfl rfl rfl rfl S) ?_) rfl)
 rintro e a' w' ⟨he,S',D,Z1,K1,hr,hS⟩
 have hd:a'.defers=[{ target:=.collected D,args:= #[]}]:=hS.sim.defers
 obtain⟨hg,s2,_⟩:=SimK.reobj (F1:=[]) (F2:=[]) rfl hS (o':=.deferred none) (fun _ _ _=>Obj.noConfusion)
 have s3:SimK C S' [] { a' with defers:=[]} (w'.putObj D (.deferred none)) Z1 K1:=by
  have s:=SimK.drop (F:=[]) rfl s2
  exact s.reenv rfl (E:=S'.env) (d:=[]) (a':={ a' with defers:=[]}) s.sim.size rfl s.eid s.sim.slots
 obtain⟨v,hv,hA⟩:=zhh (pre:=[]) (post:=[]) (k:=k) (SimX.sim ⟨Z1,K1,s3⟩) rfl rfl hk hr
 have key:LeavesInM Fence.wide n P fn a'.tmps (fun e w'=>∃v,e= .returned v∧After k (zaq k [] r []) Z M w v w') a'.defers .returning w':=by
  rw[hd]
  exact⟨fun h=>FrameMode.noConfusion h,.inl ⟨D,_,rfl,run_takeDeferred hg,v,hv,v,rfl,hA⟩⟩
 rcases he with rfl|rfl
 ·exact key
 ·exact key
end
theorem zfI (z:Array Value) (m c:Nat) (h:m≤c):(madeCells z c).toList.take m=(madeCells z m).toList:=by
 apply List.ext_getElem?
 intro j
 by_cases hj:j<m
 ·rw[List.getElem?_take_of_lt hj]
  simp[madeCells,hj,show j<c by omega]
 ·rw[List.getElem?_eq_none (by rw[List.length_take];omega),List.getElem?_eq_none (by simp[madeCells];omega)]
theorem run_make_room {P:Program} (w:World) (base:Nat) (t e:TypeId) (i:TypeInfo) (z:Value) (size:Nat) (ht:P.underlying t=some (.slice e)) (hi:P.info? e=some i) (hz:i.zero=some z) (hsize:i.size=size)
  (kl kc:IntKind) (m c:Nat) (hmc:m≤c) (hbytes:i.bytes*c≤281474976710656) (h63:c≤maxLen) (hbase:base≤w.heap.size) (hzs:z.cells.size=size):
  ∃w',(Instr.makeSlice t (.int kl (m:Int)) (.int kc (c:Int))).run P w= .ok (.slice (some ⟨w.heap.size,0,none⟩) m c) w'∧
   w'.ownsRow base e size (.slice (some ⟨w.heap.size,0,none⟩) m c) m (madeCells z.cells (m*size)).toList∧w.grownBy w' none:=by
 subst hsize
 have h63':(c:Int)≤9223372036854775807:=by
  have h:=h63
  simp[maxLen]at h
  omega
 have hb':(i.bytes:Int)*(c:Int)≤281474976710656:=by
  have h:((i.bytes*c:Nat):Int)≤281474976710656:=by omega
  rwa [Int.natCast_mul]at h
 have hr:=run_make (P:=P) w t e i z ht hi hz kl kc m c (by omega) (by omega) hb' h63'
 simp only[Int.toNat_natCast]at hr
 refine⟨_,hr,⟨by simp[madeCells],.inr ⟨w.heap.size,c,_,rfl,hbase,heap_alloc_new _ _,hmc,h63,by simp[madeCells],?_⟩⟩,World.grownBy_alloc w _ none⟩
 exact zfI _ _ _ (Nat.mul_le_mul_right _ hmc)
section
variable {P:Program} {E:List (Nat×AV)} {HF:Nat→Option Blk} {o:Option Tmp} {ty:TypeId} {pos:String} {af:Array Edge} {g:Option (Nat×Bool)} {x y:Operand} {t:TypeId} {k:Nat}
theorem zg4 {e sz b m c:Nat} {cs:List Value} [hT:SlT P t e sz b] [hZ:ZrT P e cs] {q q':IntKind} (hx:evA (get E) x= .r (.v (.int q m))) (hy:evA (get E) y= .r (.v (.int q' c))) (hb:b*c≤281474976710656∧c≤9223372036854775807∧m≤c):
  ze2 P ⟨o,.makeSlice t x y,ty,pos,af,g⟩ (get E) HF [] k (.ow k) (.row e sz (List.replicate m (cs.map .v))):=by
 refine⟨fun i b h=>zaH h,rfl,fun i hi=>by simp[Blk.ids]at hi,fun a w Z M hM hr _=>?_⟩
 have h1:=ev_v hx (hr x (by simp[Op.operands]))
 have h2:=ev_v hy (hr y (by simp[Op.operands]))
 obtain⟨i,z,t1,t2,t3,t4,t5⟩:=SlT.inf (P:=P) (t:=t) (e:=e) (sz:=sz) (b:=b)
 have tu:=SlT.und (P:=P) (t:=t) (e:=e) (sz:=sz) (b:=b)
 have hz:z.cells=cs.toArray:=by
  have :=hZ.ok
  rw[t1,Option.map_some,t2,Option.map_some]at this
  injection this with h
  injection h
 obtain⟨w',h3,h4,h5⟩:=run_make_room (P:=P) w 0 t e i z sz tu t1 t2 t3 q q' m c hb.2.2 (by rw[t4];exact hb.1) (by unfold maxLen;omega) (Nat.zero_le _) t5
 have hbel:Below w.heap.size w w':=⟨h5.os,h5.tape,h5.output,h5.size,fun q hq=>h5.block q hq (fun e=>by cases e)⟩
 have hcl:cs.length=sz:=by have :=t5;rw[hz]at this;simpa using this
 refine⟨_,.slice (some ⟨w.heap.size,0,none⟩) m c,w',?_,hbel,fun q hq=>by simp[blk]at hq;omega,fun Z' hz' hzo=>⟨by rw[AV.rep,hz'],fun _=>?_⟩⟩
 ·simp only[execOp,h1,h2,Sem.run_bind,h3,Result.andThen_ok,Sem.run_pure]
 ·refine⟨(madeCells z.cells (m*sz)).toList,?_,?_,fun el hel=>?_⟩
  ·rw[hz',List.length_replicate];exact h4
  ·rw[hz,←hcl,show cs.length=cs.toArray.size by simp,zg5]
   have :∀m,(List.replicate m (cs.map RV.v)).flatten=((List.replicate m cs).flatten).map RV.v:=fun m=>by
    induction m with
    |zero=>rfl
    |succ m ih=>rw[List.replicate_succ,List.replicate_succ,List.flatten_cons,List.flatten_cons,List.map_append,ih]
   rw[this]
   refine zgB _ ?_
   rw[List.all_eq_true]
   intro v hv
   obtain⟨l,hl,hvl⟩:=List.mem_flatten.1 hv
   have :=(List.mem_replicate.1 hl).2
   subst this
   exact List.all_eq_true.1 hZ.one v (by simpa using hvl)
  ·have :=(List.mem_replicate.1 hel).2
   subst this
   rw[List.length_map,hcl]
end
section
variable {P:Program} {H:Nat→Option Blk} {env:Nat→AV} {d:Option Tmp} {ty:TypeId} {pos:String} {af:Array Edge} {g:Option (Nat×Bool)} {t yt:TypeId} {x y:Operand}
theorem zoW {e sz b:Nat} [SlT P t e sz b] (hx:evA env x= .r (.v (.slice none 0 0))) (hy:evA env y= .r (.v (.slice none 0 0))):zav P ⟨d,.binOp .eql t x y yt,ty,pos,af,g⟩ env H [] (.r (.v (.bool true))):=
 zaU rfl hx hy fun ρ w h1 h2=>by
  have tu:=SlT.und (P:=P) (t:=t) (e:=e) (sz:=sz) (b:=b)
  simp[execOp,h1,h2,go_sem,run_eql_slice_nil w _ _ none 0 0 tu]
theorem zix {e s b:Nat} [SlT P t e s b] {i T sz:Nat} {es:List (List RV)} (hx:evA env x= .ow i) (hH:H i=some (.row T sz es)) (hne:es≠[]) (hy:evA env y= .r (.v (.slice none 0 0))):zav P ⟨d,.binOp .eql t x y yt,ty,pos,af,g⟩ env H [(i,.row T sz es)] (.r (.v (.bool false))):=by
 refine⟨fun i b h=>by simp only[List.mem_cons,List.not_mem_nil,or_false,Prod.mk.injEq]at h;obtain⟨rfl,rfl⟩:=h;exact hH,fun i hi=>by simp[AV.ids]at hi,fun a w Z M hr hh=>?_⟩
 have h1:=hr x (by simp[Op.operands])
 have h2:=hr y (by simp[Op.operands])
 rw[hx,AV.rep]at h1
 rw[hy,AV.rep,RV.rep]at h2
 obtain⟨q,cap,cur,us,e1,_⟩:=zdQ (hh i _ List.mem_cons_self) hne
 have tu:=SlT.und (P:=P) (t:=t) (e:=e) (sz:=s) (b:=b)
 refine⟨.bool false,?_,by rw[AV.rep,RV.rep]⟩
 have h3:a.eval x= .slice (some ⟨q,0,none⟩) es.length cap:=by rw[←e1];exact h1
 clear h1 hr
 generalize a.eval=ρ at *
 simp[execOp,h3,h2,go_sem,run_eql_slice_nil w _ _ (some ⟨q,0,none⟩) es.length cap tu]
end
end Go.Ab
namespace Go.Wd
def mrG (mid:Int→Int→Int) (eps:Int):List Int→Nat→Int→Int→List (Int×Int)
 |[],c,a,b=>if c=0 then[]else[((c:Int),mid a b)]
 |v::l,c,a,b=>if 0<c∧max b v-min a v≤2*eps then mrG mid eps l (c+1) (min a v) (max b v)else(if c=0 then[]else[((c:Int),mid a b)])++mrG mid eps l 1 v v
theorem zdY (m1 m2:Int→Int→Int) {e1 e2:Int} (h0:0≤e1) (h:e1≤e2):∀(l:List Int) (c1 c2:Nat) (a1 b1 a2 b2:Int),0<c1→0<c2→
  ((a1≤a2∧a2≤b2∧b2≤b1)→(mrG m2 e2 l c2 a2 b2).length≤(mrG m1 e1 l c1 a1 b1).length)∧(mrG m2 e2 l c2 a2 b2).length≤(mrG m1 e1 l c1 a1 b1).length+1
 |[],c1,c2,a1,b1,a2,b2,h1,h2=>by
  rw[mrG,mrG,if_neg (by omega),if_neg (by omega)]
  exact⟨fun _=>Nat.le_refl _,by simp⟩
 |v::l,c1,c2,a1,b1,a2,b2,h1,h2=>by
  have nz1:¬c1=0:=by omega
  have nz2:¬c2=0:=by omega
  rw[mrG,mrG,if_neg nz2,if_neg nz1]
  have I1:=zdY m1 m2 h0 h l (c1+1) (c2+1) (min a1 v) (max b1 v) (min a2 v) (max b2 v) (by omega) (by omega)
  have I2:=zdY m1 m2 h0 h l (c1+1) 1 (min a1 v) (max b1 v) v v (by omega) (by omega)
  have I3:=zdY m1 m2 h0 h l 1 (c2+1) v v (min a2 v) (max b2 v) (by omega) (by omega)
  have I4:=zdY m1 m2 h0 h l 1 1 v v v v (by omega) (by omega)
  have J2:=I2.1 (by omega)
  have J4:=I4.1 (by omega)
  by_cases k1:max b1 v-min a1 v≤2*e1<;>by_cases k2:max b2 v-min a2 v≤2*e2
  ·rw[if_pos ⟨h2,k2⟩,if_pos ⟨h1,k1⟩]
   exact⟨fun hs=>I1.1 (by omega),I1.2⟩
  ·rw[if_neg (fun x=>k2 x.2),if_pos ⟨h1,k1⟩]
   simp only[List.length_append,List.length_cons,List.length_nil]
   exact⟨fun hs=>absurd (show max b2 v-min a2 v≤2*e2 by omega) k2,by omega⟩
  ·rw[if_pos ⟨h2,k2⟩,if_neg (fun x=>k1 x.2)]
   simp only[List.length_append,List.length_cons,List.length_nil]
   exact⟨fun hs=>by omega,by omega⟩
  ·rw[if_neg (fun x=>k2 x.2),if_neg (fun x=>k1 x.2)]
   simp only[List.length_append,List.length_cons,List.length_nil]
   exact⟨fun hs=>by omega,by omega⟩
def sumC:List (Int×Int)→Int
 |[]=>0
 |x::l=>x.1+sumC l
theorem zfA:∀a b:List (Int×Int),sumC (a++b)=sumC a+sumC b
 |[],b=>by simp[sumC]
 |x::a,b=>by rw[List.cons_append,sumC,sumC,zfA a b];omega
theorem zhS (mid:Int→Int→Int) (eps:Int):∀(l:List Int) (c:Nat) (a b:Int),sumC (mrG mid eps l c a b)=c+l.length∧(mrG mid eps l c a b).length≤c+l.length∧∀x∈mrG mid eps l c a b,1≤x.1∧∃p q,x.2=mid p q
 |[],c,a,b=>by
  rw[mrG]
  split
  ·rename_i h;subst h;exact⟨rfl,by simp,by simp⟩
  ·refine⟨by simp[sumC],by simp;omega,fun x hx=>?_⟩
   rw[List.mem_singleton]at hx;subst hx
   exact⟨by show(1:Int)≤c;omega,a,b,rfl⟩
 |v::l,c,a,b=>by
  rw[mrG]
  split
  ·obtain⟨h1,h2,h3⟩:=zhS mid eps l (c+1) (min a v) (max b v)
   exact⟨by rw[h1,List.length_cons];omega,by rw[List.length_cons];omega,h3⟩
  ·obtain⟨h1,h2,h3⟩:=zhS mid eps l 1 v v
   split
   ·rename_i h;subst h
    exact⟨by rw[List.nil_append,h1,List.length_cons];omega,by rw[List.nil_append,List.length_cons];omega,by rw[List.nil_append];exact h3⟩
   ·refine⟨by rw[zfA,h1,List.length_cons];simp[sumC];omega,by rw[List.length_append,List.length_cons,List.length_cons,List.length_nil];omega,fun x hx=>?_⟩
    rcases List.mem_append.1 hx with hx|hx
    ·rw[List.mem_singleton]at hx;subst hx
     exact⟨by show(1:Int)≤c;omega,a,b,rfl⟩
    ·exact h3 x hx
def mrA (mid:Int→Int→Int) (eps:Int) (l:List Int):List (Int×Int):=mrG mid eps l 0 0 0
theorem ziv (mid:Int→Int→Int) (eps v:Int) (l:List Int):mrA mid eps (v::l)=mrG mid eps l 1 v v:=by
 unfold mrA
 rw[mrG,if_neg (by omega),if_pos rfl,List.nil_append]
theorem zlI (mid:Int→Int→Int) {e1 e2:Int} (h0:0≤e1) (h:e1≤e2) (l:List Int):(mrA mid e2 l).length≤(mrA mid e1 l).length:=by
 cases l with
 |nil=>exact Nat.le_refl _
 |cons v l=>rw[ziv,ziv];exact(zdY mid mid h0 h l 1 1 v v v v (by omega) (by omega)).1 (by omega)
end Go.Wd
namespace Go.Ab
open Go.RowKit
section
variable {F:Fence} {n:Nat} {P:Program} {ops:Array Oper} {B:Array Nat} {nx0:Nat} {tr:List (Nat×Sp)} {C:Cx} {env0:Nat→AV} {h0:Nat→Option Blk}
theorem zfG (hF:FOk P F n) {Q':Exit→Act→World→Prop} (hP:C.P=P) (hC:∀j oj,ops[j]? =some oj→Chk ops B nx0 tr j oj) (hT:∀q o,ops[q]? =some o→StepA P C.ln C.N ops o (zaQ ops tr env0 all_ q) (hAt tr h0 all_ q) (kAt tr q) (spAt tr q))
  (he:∀t,∀i∈(env0 t).ids,i<nx0) (hh:∀i b,h0 i=some b→i<nx0∧∀j∈b.ids,j<nx0)
  (hQ:∀Z a w,SimF C (Df ops nx0 tr all_) (zaQ ops tr env0 all_ ops.size) (hAt tr h0 all_ ops.size) Z a w→Q' .normal a w):∀(fuel:Nat) (listed:Array Bool) (a:Act) (w:World),listed.size=ops.size→cntF (fun q=>listed.getD q false) ops.size=fuel→
  (∀j oj,ops[j]? =some oj→listed.getD j false=true→∀e∈oj.after,Region.binds .any e=true→listed.getD e.on false=true)→
  (∃Z,SimF C (Df ops nx0 tr fun q=>listed.getD q false) (zaQ ops tr env0 (fun q=>listed.getD q false) ops.size) (hAt tr h0 (fun q=>listed.getD q false) ops.size) Z a w)→wpAnyIn F n P .any ops Q' fuel listed a w:=by
 have hend:∀(listed:Array Bool) (a:Act) (w:World),(∀j,j<ops.size→listed.getD j false=true)→
   (∃Z,SimF C (Df ops nx0 tr fun q=>listed.getD q false) (zaQ ops tr env0 (fun q=>listed.getD q false) ops.size) (hAt tr h0 (fun q=>listed.getD q false) ops.size) Z a w)→Q' .normal a w:=by
  rintro listed a w hall ⟨Z,S⟩
  have e1:zaQ ops tr env0 (fun q=>listed.getD q false) ops.size=zaQ ops tr env0 all_ ops.size:=by
   funext t;exact zby _ fun j hj _=>hall j hj
  have e2:hAt tr h0 (fun q=>listed.getD q false) ops.size=hAt tr h0 all_ ops.size:=by
   funext t;exact zcy _ fun j hj _=>hall j hj
  rw[e1,e2]at S
  exact hQ Z a w (S.monoD fun i hi=>hi.imp id fun⟨q,h1,_,h3⟩=>⟨q,h1,rfl,h3⟩)
 intro fuel
 induction fuel with
 |zero=>
  intro listed a w hsz hcnt hdc hS
  have hall:=zfa _ hcnt
  refine⟨?_,hend listed a w hall hS⟩
  rw[List.eq_nil_iff_forall_not_mem]
  intro j hj
  obtain⟨h1,o,ho,_⟩:=mem_ready.1 hj
  have h2:=hall j (zcg ho)
  have hj':j<listed.size:=by rw[hsz];exact zcg ho
  simp[hj']at h1 h2
  rw[h1]at h2;cases h2
 |succ fuel ih=>
  intro listed a w hsz hcnt hdc hS
  refine⟨fun hr=>hend listed a w ?_ hS,fun q hq=>?_⟩
  ·intro j hj
   induction j using Nat.strongRecOn with
   |_ j ihj=>
    cases hl:listed.getD j false with
    |true=>rfl
    |false=>
     exfalso
     have ho:ops[j]? =some ops[j]:=Array.getElem?_eq_getElem hj
     have hm:j∈Region.ready .any ops listed:=mem_ready.2 ⟨by
      have hj':j<listed.size:=by omega
      simpa[hj']using hl,_,ho,fun e h1 h2=>by
       have :=(hC j _ ho).back e h1 h2
       exact ihj e.on this (by omega)⟩
     rw[hr]at hm
     cases hm
  ·obtain⟨hq1,o,ho,hedge⟩:=mem_ready.1 hq
   have hqs:=zcg ho
   have hfq:listed.getD q false=false:=by
    have hj':q<listed.size:=by omega
    simpa[hj']using hq1
   obtain⟨Z,S⟩:=hS
   have hc:=hC q o ho
   have hst:=hT q o ho
   generalize hf:(fun q=>listed.getD q false)=f at *
   have hfe:∀j,listed.getD j false=f j:=fun j=>by rw[←hf]
   simp only[hfe]at hfq hdc hedge
   -- those before it that matter have been carried out;those behind it that matter have not
   have hbef:∀i,i<q→bit B q i=true→f i=true:=zcr hC hdc q q o (Nat.le_refl _) ho hedge
   have haft:∀j oj,q<j→ops[j]? =some oj→bit B j q=true→f j=false:=by
    intro j oj hqj hoj hb
    cases hfj:f j with
    |false=>rfl
    |true=>
     have :=zcr hC hdc j j oj (Nat.le_refl _) hoj (fun e h1 h2=>hdc j oj hoj hfj e h1 h2) q hqj hb
     rw[hfq]at this;cases this
   have hcl:∀i oi,i<q→ops[i]? =some oi→conf ops tr oi o i q=true→f i=true:=fun i oi h1 h2 h3=>hbef i h1 (hc.conf i oi h1 h2 h3)
   have hca:∀j oj,q<j→ops[j]? =some oj→conf ops tr o oj q j=true→f j=false:=fun j oj h1 h2 h3=>haft j oj h1 h2 ((hC j oj h2).conf q o h1 ho h3)
   have hdst:∀{j oj t},ops[j]? =some oj→(zcd ops j=some t↔oj.dst=some t):=fun {j oj t} h=>by simp[zcd,h]
   have henv:∀t,t∈o.looksAt ops→zaQ ops tr env0 f ops.size t=zaQ ops tr env0 all_ q t:=by
    intro t ht
    rw[zcw q ops.size (by omega) (fun j h1 h2 h3=>?_)]
    ·refine zby q fun j hj hd=>?_
     have hoj:ops[j]? =some ops[j]:=Array.getElem?_eq_getElem (by omega)
     refine hcl j _ hj hoj ?_
     unfold conf
     rw[(hdst hoj).1 hd]
     simp[ht]
    ·rcases Nat.lt_or_ge q j with hqj|hqj
     ·have hoj:ops[j]? =some ops[j]:=Array.getElem?_eq_getElem h2
      refine hca j _ hqj hoj ?_
      unfold conf
      rw[(hdst hoj).1 h3]
      simp[ht]
     ·have :j=q:=by omega
      subst this;exact hfq
   obtain⟨i3,i4⟩:=zeY hC hT he hh q (by omega) (kAt tr q) hc.nx (fun j h=>hc.rng j h)
   have hsp:=hst.sp (fun i=>i<kAt tr q) i3 i4 (fun i hi=>.inl hi)
   have hH:∀i b,(i,b)∈(spAt tr q).rd→hAt tr h0 f ops.size i=hAt tr h0 all_ q i:=by
    intro i b hib
    rw[zdO q ops.size (by omega) (fun j h1 h2 h3=>?_)]
    ·refine zcy q fun j hj hd=>?_
     have hoj:ops[j]? =some ops[j]:=Array.getElem?_eq_getElem (by omega)
     refine hcl j _ hj hoj ?_
     unfold conf
     have :((spAt tr q).rd.any fun p=>tou tr j p.1)=true:=List.any_eq_true.2 ⟨_,hib,hd⟩
     simp[this]
    ·rcases Nat.lt_or_ge q j with hqj|hqj
     ·have hoj:ops[j]? =some ops[j]:=Array.getElem?_eq_getElem h2
      refine hca j _ hqj hoj ?_
      unfold conf
      have :((spAt tr q).rd.any fun p=>tou tr j p.1)=true:=List.any_eq_true.2 ⟨_,hib,h3⟩
      simp[this]
     ·have :j=q:=by omega
      subst this;exact hfq
   have hids:∀x∈zdw (spAt tr q),Df ops nx0 tr f x∨(kAt tr q≤x∧x<kAt tr q+(spAt tr q).frs.length):=by
    intro x hx
    rcases hc.ids x hx with h|⟨i,h1,h2⟩
    ·exact .inl (.inl h)
    ·rcases Nat.lt_or_ge i q with h3|h3
     ·exact .inl (.inr ⟨i,by omega,hbef i h3 (hc.idb i x h3 hx h2),h2⟩)
     ·have :i=q:=by omega
      subst this
      exact .inr (zbz.1 h2)
   have hsp':SpOk C.ln (Df ops nx0 tr f) (hAt tr h0 f ops.size) (kAt tr q) (spAt tr q):=by
    refine⟨fun i b hib=>(hH i b hib).trans (hsp.rd i b hib),hsp.up,hsp.nd,hsp.loc,fun i hi=>?_,fun i hi=>hids i ?_,fun b hb i hi=>hids i ?_,fun j b hjb i hi=>hids i ?_⟩
    ·rcases hi with h|⟨j,hj,hfj,hr⟩
     ·exact .inl (Nat.lt_of_lt_of_le h hc.nx)
     ·have hr':=zbz.1 hr
      rcases Nat.lt_trichotomy j q with h|h|h
      ·have :=hc.rng j h;exact .inl (by omega)
      ·subst h;rw[hfq]at hfj;cases hfj
      ·have hoj:ops[j]? =some ops[j]:=Array.getElem?_eq_getElem hj
       have :=(hC j _ hoj).rng q h
       exact .inr (by omega)
    ·unfold zdw;exact List.mem_append_left _ hi
    ·unfold zdw;exact List.mem_append_right _ (List.mem_append_left _ (List.mem_flatMap.2 ⟨b,hb,hi⟩))
    ·unfold zdw;exact List.mem_append_right _ (List.mem_append_right _ (List.mem_flatMap.2 ⟨_,hjb,hi⟩))
   have hwant:za3 ops (zaQ ops tr env0 f ops.size) o (spAt tr q).run:=by
    rcases hst.want with h|⟨j,want,t,x,h1,h2,h3,h4⟩|⟨j,want,t,h1,h2,h3,h4⟩
    ·exact .inl h
    ·refine .inr (.inl ⟨j,want,t,x,h1,h2,?_,h4⟩)
     rw[henv t ?_]
     ·exact h3
     ·unfold Oper.looksAt
      rw[h1]
      refine List.mem_append_right _ ?_
      simp[h2]
    ·refine .inr (.inr ⟨j,want,t,h1,h2,?_,h4⟩)
     rw[henv t ?_]
     ·exact h3
     ·unfold Oper.looksAt
      rw[h1]
      refine List.mem_append_right _ ?_
      simp[h2]
   have hkeepf:∀j,(listed.setIfInBounds q true).getD j false=if j=q then true else f j:=by
    intro j
    by_cases hjq:j=q
    ·subst hjq
     have :j<listed.size:=by omega
     simp[this]
    ·rw[if_neg hjq,←hfe]
     simp[Array.getElem?_setIfInBounds_ne (Ne.symm hjq)]
   unfold wpOpIn
   rw[ho]
   simp only
   refine S.operIn hF (k:=kAt tr q) (sp:=spAt tr q) hP rfl hst.dst hwant (fun hr=>(hst.ok hr).congr fun t ht=>henv t ?_) hst.skip hsp' fun Z' a' w' S'=>?_
   ·unfold Oper.looksAt
    exact List.mem_append_left _ (List.mem_filterMap.2 ⟨_,ht,rfl⟩)
   ·refine ih _ a' w' (by simpa using hsz) ?_ ?_ ⟨Z',?_⟩
    ·have :=zgc (f:=f) (f':=fun j=>(listed.setIfInBounds q true).getD j false) (q:=q) hfq (by simp[hkeepf]) (fun j hj=>by simp[hkeepf,hj]) ops.size hqs
     omega
    ·intro j oj hoj hfj e h1 h2
     rw[hkeepf]at hfj ⊢
     split
     ·rfl
     ·split at hfj
      ·rename_i hjq
       subst hjq
       rw[ho]at hoj
       injection hoj with hoj
       subst hoj
       exact hedge e h1 h2
      ·exact hdc j oj hoj hfj e h1 h2
    ·have e1:=zgV (ops:=ops) (tr:=tr) (env0:=env0) (f:=f) (f':=fun j=>(listed.setIfInBounds q true).getD j false) hqs hfq (by simp[hkeepf]) (fun j hj=>by simp[hkeepf,hj]) (fun j h1 h2 h3 t h4 h5=>by
      have hoj:ops[j]? =some ops[j]:=Array.getElem?_eq_getElem h2
      have :f j=false:=hca j _ h1 hoj (by
       unfold conf
       rw[(hdst ho).1 h5,(hdst hoj).1 h4]
       simp)
      rw[h3]at this;cases this)
     have e2:=zj1 (tr:=tr) (h0:=h0) (f:=f) (f':=fun j=>(listed.setIfInBounds q true).getD j false) hqs hfq (by simp[hkeepf]) (fun j hj=>by simp[hkeepf,hj]) (fun j h1 h2 h3 i h4=>by
      have hoj:ops[j]? =some ops[j]:=Array.getElem?_eq_getElem h2
      cases htq:tou tr q i with
      |false=>rfl
      |true=>
       exfalso
       have hrng:=(hC j _ hoj).rng q h1
       unfold tou at h4
       rw[Bool.or_eq_true]at h4
       rcases h4 with h4|h4
       ·have h5:=zbz.1 h4
        unfold tou at htq
        rw[Bool.or_eq_true]at htq
        rcases htq with h6|h6
        ·have :=zbz.1 h6;omega
        ·obtain⟨p,hp,hpi⟩:=List.any_eq_true.1 h6
         have hpi':=Nat.eq_of_beq_eq_true hpi
         obtain⟨c,hcb⟩:=hsp.up p.1 p.2 hp
         have :=(i4 p.1 c (hsp.rd _ _ hcb)).1
         omega
       ·obtain⟨p,hp,hpi⟩:=List.any_eq_true.1 h4
        have hpi':=Nat.eq_of_beq_eq_true hpi
        have :f j=false:=hca j _ h1 hoj (by
         unfold conf
         have :((spAt tr j).up.any fun p=>tou tr q p.1)=true:=List.any_eq_true.2 ⟨p,hp,by rw[hpi'];exact htq⟩
         simp[this])
        rw[h3]at this;cases this)
     rw[e1,e2]
     have ed:zcd ops q=o.dst:=by simp[zcd,ho]
     rw[ed]
     refine S'.monoD fun i hi=>?_
     rcases hi with(h|⟨j,h1,h2,h3⟩)|h
     ·exact .inl h
     ·exact .inr ⟨j,h1,by show(listed.setIfInBounds q true).getD j false=true;rw[hkeepf];split <;>first|rfl|exact h2,h3⟩
     ·exact .inr ⟨q,hqs,by show(listed.setIfInBounds q true).getD q false=true;rw[hkeepf,if_pos rfl],zbz.2 h⟩
end
section
variable {F:Fence} {n:Nat} {P:Program}
theorem zgJ (hF:FOk P F n) {id:Nat} {ops:Array Oper} {S:St} {a:Act} {w:World} {Q:St→Prop} {Q':Exit→Act→World→Prop} {C:Cx} (hP:C.P=P) (hm:P.follows .mixedOrders=true) (h:wpA P C.ln C.N ops (zfL ops S.nx) Q ops.toList S []) (hs:Sim C S a w)
  (hQ:∀S a w,Q S→Sim C S a w→Q' .normal a w):(Code.region id ops true).wpIn F n P Q' a w:=by
 refine wpIn_region_any hm ?_
 obtain⟨Z,hs⟩:=hs
 obtain⟨tr,T,_⟩:=text_of (env0:=S.envF) (h0:=S.HF) ops.toList 0 S [] rfl rfl (Nat.zero_le _) (fun tr _=>⟨rfl,rfl⟩) h
 have hck:=T.chk
 unfold zfL at hck
 rw[Bool.and_eq_true,List.all_eq_true]at hck
 have hC:∀j oj,ops[j]? =some oj→Chk ops (Region.before ops) S.nx tr j oj:=fun j oj hj=>zmv (hck.2 j (by simpa using zcg hj)) hj
 obtain⟨Sn,f1,f2,f3,f4,f5⟩:=T.last
 refine zfG hF hP hC (fun q o ho=>T.steps q o (Nat.zero_le _) ho) hs.ids (fun i b hb=>(hs.holds i b hb).2) (fun Z a w hS=>hQ Sn a w f1 ⟨Z,?_⟩) ops.size _ a _ (by simp) ?_ ?_ ⟨Z,?_⟩
 ·rw[f2,f3]
  refine hS.monoD fun i hi=>?_
  rcases hi with h|⟨q,h1,_,h3⟩
  ·omega
  ·have :=(zbz.1 h3).2
   have :=f4 q (Nat.zero_le _) h1
   omega
 ·have :∀m,m≤ops.size→cntF (fun q=>(Array.replicate ops.size false).getD q false) m=m:=by
   intro m
   induction m with
   |zero=>intro _;rfl
   |succ n ih=>
    intro hn
    rw[cntF,ih (by omega)]
    have :(Array.replicate ops.size false).getD n false=false:=by
     have h0:n<ops.size:=hn
     simp[h0]
    rw[this]
    rfl
  exact this _ (Nat.le_refl _)
 ·intro j oj hj hl
  have h0:j<ops.size:=zcg hj
  simp[h0]at hl
 ·have e1:∀n,zaQ ops tr S.envF (fun q=>(Array.replicate ops.size false).getD q false) n=S.envF:=by
   intro n
   induction n with
   |zero=>rfl
   |succ n ih=>
    rw[zaQ,ih]
    have :(Array.replicate ops.size false).getD n false=false:=by
     by_cases h0:n<ops.size<;>simp[h0]
    rw[this]
    rfl
  have e2:∀n,hAt tr S.HF (fun q=>(Array.replicate ops.size false).getD q false) n=S.HF:=by
   intro n
   induction n with
   |zero=>rfl
   |succ n ih=>
    rw[hAt,ih]
    have :(Array.replicate ops.size false).getD n false=false:=by
     by_cases h0:n<ops.size<;>simp[h0]
    rw[this]
    rfl
  rw[e1,e2]
  exact(hs.world (Below.refl _ _).drew).monoD fun i hi=>.inl hi
theorem ze6 {L:Ln} {N:Nat} {Q:Exit→St→Prop} {S:St} {id:Nat} {l:List Oper} (hF:FOk P F n) (hm:P.follows .mixedOrders=true) (h:wpA P L N l.toArray (zfL l.toArray S.nx) (Q .normal) l S []):zeG F n P L N (.region id l.toArray true) Q S:=by
 intro C h1 h2 h3 a w hs
 subst h1 h2 h3
 exact zgJ hF rfl hm (by simpa using h) hs (fun S' a' w' h4 h5=>⟨S',h4,h5⟩)
end
theorem zi3 {P:Program} {f:FuncId} {fx:Operand} {t:TypeId} {name:String} {rv rc:Value} {xs:Array Operand} {ats:Array TypeId} {d:Option Tmp} {ty:TypeId} {pos:String} {af:Array Edge} {g:Option (Nat×Bool)} (hf:zdJ P f=true) (a:Act) (w:World) (hu:a.eval fx= .iface t rv) (hm:(Go.method (P.types.size+Made.depth) t rv name).run P w= .ok (f,rc) w):
  (execOp a.eval ⟨d,.call { callee:=.invoke fx name,args:=xs,argTypes:=ats},ty,pos,af,g⟩).run P w= .ok (.enter f (#[rc]++xs.map a.eval)) w:=by
 unfold zdJ at hf
 split at hf
 ·rename_i fn hfn
  rw[Bool.and_eq_true]at hf
  have h1:(fn.name == "runtime.NumGoroutine")=false:=by simpa using hf.1
  have h2:fn.body.isNone=false:=by cases hb:fn.body<;>simp_all
  have h3:(callFunc f (#[rc]++xs.map a.eval)).run P w= .ok (.enter f (#[rc]++xs.map a.eval)) w:=by
   unfold callFunc
   simp only[program,Sem.run_bind,Sem.run,Result.andThen_ok,hfn,h1,h2]
   simp
  have hp:(program:Sem Program).run P w= .ok P w:=rfl
  have h4:(callMethod (.iface t rv) name (xs.map a.eval)).run P w= .ok (.enter f (#[rc]++xs.map a.eval)) w:=by
   simp only[callMethod,Sem.run_bind,hp,Result.andThen_ok,hm,h3]
  simp only[execOp,resolve,hu,Sem.run_bind,Sem.run_pure,Result.andThen_ok,invoke]
  have e1:∀(v:Value) (A:Array Value),(#[v]++A)[0]? =some v:=fun v A=>by rw[Array.getElem?_append_left (by simp)];rfl
  have e2:∀(v:Value) (A:Array Value),(#[v]++A).extract 1 (#[v]++A).size=A:=fun v A=>by
   apply Array.ext'
   simp[Array.toList_extract,List.extract_eq_take_drop]
  simp only[e1,e2]
  exact h4
 ·cases hf
section
variable {P:Program} {L:Ln} {N:Nat} {ops:Array Oper} {chk:List (Nat×Sp)→Bool} {Q:St→Prop} {l:List Oper} {E:List (Nat×AV)} {H:List (Nat×Option Blk)} {n:Nat} {tr:List (Nat×Sp)}
variable {d:Nat} {ty:TypeId} {pos:String} {af:Array Edge} {g:Option (Nat×Bool)}
theorem zgH {f:FuncId} {fx:Operand} {tt:TypeId} {name:String} {rv rc:Value} {rA:AV} {xs:Array Operand} {ats:Array TypeId} {ds:List AV} {r:AV} (hfx:evA (get E) fx= .r (.v (.iface tt rv))) (hmt:∀w,(Go.method (P.types.size+Made.depth) tt rv name).run P w= .ok (f,rc) w) (hrA:∀Z M w,AV.rep Z M w rA rc) (J:List Nat) (pre:List Blk) (post:List (Option Blk)) (hm:zam P f ds pre r post) (hargs:CfL (getH H) (fun i=>J.getD i 0) [] (rA::xs.toList.map (evA (get E))) ds) (hf:zdJ P f=true)
  (hH:∀i b,(i,b)∈rdOf J pre→getH H i=some b) (hpre:preB J n pre post ds L=true) (hrng:rngB (r.unfr n).1 n (r.unfr n).2.length=true)
  (hd:Nat.blt d N=true) (hg:za3 ops (get E) ⟨some d,.call { callee:=.invoke fx name,args:=xs,argTypes:=ats},ty,pos,af,g⟩ true)
  (h:wpA P L N ops chk Q l ⟨(d,(r.unfr n).1)::E,frsL n (r.unfr n).2++(pairs J post++H),n+(r.unfr n).2.length⟩ ((n,⟨true,rdOf J pre,(r.unfr n).1,pairs J post,(r.unfr n).2⟩)::tr)):
  wpA P L N ops chk Q (⟨some d,.call { callee:=.invoke fx name,args:=xs,argTypes:=ats},ty,pos,af,g⟩::l) ⟨E,H,n⟩ tr:=by
 unfold preB at hpre
 simp only[Bool.and_eq_true,zbv,List.all_eq_true,za2,decide_eq_true_eq]at hpre
 obtain⟨⟨⟨⟨⟨⟨⟨⟨b1,b2⟩,b3⟩,b4⟩,b5⟩,b6⟩,b7⟩,b8⟩,b9⟩:=hpre
 have b4:=Nat.eq_of_beq_eq_true b4
 have b5:=Nat.eq_of_beq_eq_true b5
 have hmem:∀q,q<J.length→J.getD q 0∈J:=fun q hq=>by rw[List.getD_eq_getElem?_getD,List.getElem?_eq_getElem hq];exact List.getElem_mem hq
 have hJq:∀q,q<J.length→J[q]? =some (J.getD q 0):=fun q hq=>by rw[List.getD_eq_getElem?_getD,List.getElem?_eq_getElem hq];rfl
 refine⟨⟨true,rdOf J pre,(r.unfr n).1,pairs J post,(r.unfr n).2⟩,⟨fun x hx=>?_,hg,fun _ a w Z M hM hr hh hdist=>?_,(fun h=>by cases h),fun D hD hDH hfree=>?_⟩,h⟩
 ·injection hx with hx;subst hx;exact za2.1 hd
 ·have hr':∀x∈xs.toList,(evA (get E) x).rep Z M w (a.eval x):=fun x hx=>hr x (by show x∈(#[fx]++xs).toList;rw[Array.toList_append];exact List.mem_append_right _ hx)
  have hreps:AV.reps Z M w (xs.toList.map (evA (get E))) (xs.toList.map a.eval):=by
   revert hr'
   generalize xs.toList=ys
   intro hr'
   induction ys with
   |nil=>rw[List.map_nil,AV.reps];rfl
   |cons y ys ih=>rw[List.map_cons,List.map_cons,AV.reps];exact⟨_,_,rfl,hr' y (by simp),ih fun x hx=>hr' x (by simp[hx])⟩
  have hfr:(evA (get E) fx).rep Z M w (a.eval fx):=hr fx (by show fx∈(#[fx]++xs).toList;rw[Array.toList_append];exact List.mem_append_left _ (by simp))
  have hus:a.eval fx= .iface tt rv:=by rw[hfx,AV.rep,RV.rep]at hfr;exact hfr
  have hreps:AV.reps Z M w (rA::xs.toList.map (evA (get E))) (rc::xs.toList.map a.eval):=by rw[AV.reps];exact⟨rc,_,rfl,hrA Z M w,hreps⟩
  let Zc:Nat→Value:=fun i=>if i<J.length then Z (J.getD i 0)else Z i
  have hZc:∀i,i<J.length→Zc i=Z (J.getD i 0):=fun i hi=>if_pos hi
  have hargs':=CfL.reps (Z:=Z) (Z':=Zc) (B:=M) (B':=M) (w:=w) (fun _ _ h=>h) (fun j b hj hb=>by cases hj) hargs (fun i hi=>hZc i (b8 i hi)) _ hreps
  have hrdq:∀i b,(i,b)∈numd 0 pre→i<J.length∧(J.getD i 0,b)∈rdOf J pre∧b∈pre:=by
   intro i b hib
   have h1:=(zdp.1 hib).2
   rw[Nat.sub_zero]at h1
   have h2:=za4 h1
   exact⟨by omega,zcF.2 ⟨i,hJq i (by omega),h1⟩,List.mem_of_getElem? h1⟩
  have hinj:∀i j,i<J.length→j<J.length→i≠j→J.getD i 0≠J.getD j 0:=by
   intro i j hi hj hij he
   have h1:=hJq i hi
   have h2:=hJq j hj
   rw[List.getElem?_eq_getElem hi]at h1
   rw[List.getElem?_eq_getElem hj]at h2
   injection h1 with h1
   injection h2 with h2
   have hp:=List.pairwise_iff_getElem.1 b3
   rcases Nat.lt_trichotomy i j with h|h|h
   ·exact hp i j hi hj h (by rw[h1,h2,he])
   ·exact hij h
   ·exact hp j i hj hi h (by rw[h1,h2,he])
  have hc:=hm w Zc M n (rc::xs.toList.map a.eval) hM (by omega) hargs' (fun i b hib=>by
   obtain⟨h1,h2,h3⟩:=hrdq i b hib
   obtain⟨h4,h5⟩:=hh _ b h2
   exact⟨zax h4 (hZc i h1) (by simpa using b6 b h3) (fun _ _ h=>h),fun x hx=>h5 x (by rw[←hZc i h1];exact hx)⟩) (fun i j b c hi hj hij x hx=>by
   obtain⟨h1,h2,_⟩:=hrdq i b hi
   obtain⟨h3,h4,_⟩:=hrdq j c hj
   rw[hZc i h1]at hx
   rw[hZc j h3]
   exact hdist _ _ b c h2 h4 (hinj i j h1 h3 hij) x hx)
  refine zcm (zi3 hf a w hus (hmt w)) ?_
  have he:(rc::xs.toList.map a.eval).toArray= #[rc]++xs.map a.eval:=by simp
  rw[he]at hc
  refine hc.mono fun e w' ⟨v,h1,Z1,A⟩=>⟨v,h1,fun i=>if n≤i∧i<n+(r.unfr n).2.length then Z1 i else Z i,?_⟩
  generalize hZ2:(fun i=>if n≤i∧i<n+(r.unfr n).2.length then Z1 i else Z i)=Z2
  have z1:∀i,n≤i→i<n+(r.unfr n).2.length→Z2 i=Z1 i:=fun i h1 h2=>by rw[←hZ2];exact if_pos ⟨h1,h2⟩
  have z2:∀i,(i<n∨n+(r.unfr n).2.length≤i)→Z2 i=Z i:=fun i h1=>by rw[←hZ2];exact if_neg (by omega)
  have hN:∀q,q<w'.heap.size→New n ⟨true,rdOf J pre,(r.unfr n).1,pairs J post,(r.unfr n).2⟩ Z2 M q→New n (zaq n pre r post) Z1 M q:=by
   rintro q _ (h0|⟨j,hj,hq⟩)
   ·exact .inl h0
   ·have hj':j<(r.unfr n).2.length:=hj
    rw[z1 (n+j) (by omega) (by omega)]at hq
    exact .inr ⟨j,hj,hq⟩
  have hup:∀j o,(j,o)∈pairs J post↔∃q,q<J.length∧J.getD q 0=j∧(q,o)∈zaM 0 post:=by
   intro j o
   rw[zbc]
   constructor
   ·rintro⟨q,h1,h2⟩
    exact⟨q,za4 h1,zhG h1,zaK.2 ⟨Nat.zero_le _,by simpa using h2⟩⟩
   ·rintro⟨q,h1,h2,h3⟩
    exact⟨q,by rw[hJq q h1,h2],by simpa using(zaK.1 h3).2⟩
  have hnl:∀q o,(q,o)∈zaM 0 post→q<J.length:=fun q o h=>by
   have :=za4 (zaK.1 h).2
   omega
  refine⟨z2,?_,fun j b hjb=>?_,fun j b hj=>?_,fun j j' x hj hj' hne h3 h4=>?_,fun j x hj hx=>?_,A.upto.mono fun x _ ⟨i,o,hi,hx⟩=>?_⟩
  ·refine AV.rep_mono (Upto.refl _) hN _ (fun i hi=>?_) _ A.out
   have :=List.all_eq_true.1 hrng i hi
   rw[Bool.and_eq_true,zbv,za2]at this
   exact z1 i this.1 this.2
  ·obtain⟨q,h2,h3,h4⟩:=(hup j (some b)).1 hjb
   have h5:=A.up q b h4
   refine zax h5 ?_ ?_ hN
   ·rw[z2 j (.inl (b2 j (h3▸hmem q h2))),A.z q (.inl (by omega)),hZc q h2,h3]
   ·have h6:=(zaK.1 h4).2
    have :=b7 _ (List.mem_of_getElem? h6)
    simpa using this
  ·obtain⟨T,sz,es,rfl,_⟩:=zbR r n b (List.mem_of_getElem? hj)
   have hjl:=za4 hj
   have hjl':j<(r.unfr n).2.length:=hjl
   exact zax (A.fr j _ hj) (z1 (n+j) (by omega) (by omega)) rfl hN
  ·have k1:j<(r.unfr n).2.length:=hj
   have k2:j'<(r.unfr n).2.length:=hj'
   have h3':blk (Z2 (n+j))=some x:=h3
   have h4':blk (Z2 (n+j'))=some x:=h4
   rw[z1 (n+j) (by omega) (by omega)]at h3'
   rw[z1 (n+j') (by omega) (by omega)]at h4'
   exact A.dist j j' x hj hj' hne h3' h4'
  ·have k1:j<(r.unfr n).2.length:=hj
   have hx':blk (Z2 (n+j))=some x:=hx
   rw[z1 (n+j) (by omega) (by omega)]at hx'
   rcases A.fresh j x hj hx' with h|⟨i,hi,hix⟩
   ·exact .inl h
   ·have k2:=hnl i _ hi
    rw[hZc i k2]at hix
    exact .inr ⟨J.getD i 0,(hup _ _).2 ⟨i,k2,rfl,hi⟩,hix⟩
  ·have k2:=hnl i _ hi
   rw[hZc i k2]at hx
   exact⟨J.getD i 0,o,(hup _ _).2 ⟨i,k2,rfl,hi⟩,hx⟩
 ·refine⟨hH,fun i o h=>?_,fun i o h=>zcb b3 h,fun i h=>?_,hfree,fun i hi=>.inr ?_,fun b hb i hi=>?_,fun i b hib i' hi'=>?_⟩
  ·obtain⟨q,h1,h2⟩:=zbc.1 h
   have h3:=za4 h1
   exact⟨pre[q]'(by omega),zcF.2 ⟨q,h1,List.getElem?_eq_getElem _⟩⟩
  ·have :=b9 _ h
   simp only[Bool.or_eq_true,za2,zbv]at this
   exact this
  ·have :=List.all_eq_true.1 hrng i hi
   rw[Bool.and_eq_true,zbv,za2]at this
   exact this
  ·obtain⟨T,sz,es,rfl,_⟩:=zbR r n b hb
   simp[Blk.ids]at hi
  ·obtain⟨q,h1,h2⟩:=zbc.1 hib
   have :=b7 _ (List.mem_of_getElem? h2)
   have :b.ids=[]:=by simpa using this
   rw[this]at hi'
   cases hi'
end
section
variable {P:Program} {H:Nat→Option Blk} {env:Nat→AV} {d:Option Tmp} {ty:TypeId} {pos:String} {af:Array Edge} {g:Option (Nat×Bool)} {t:TypeId} {x:Operand}
theorem zoq {fs:Array Field} (hu:P.underlying t=some (.struct fs)) (hx:evA env x= .ag []):zav P ⟨d,.makeInterface t x,ty,pos,af,g⟩ env H [] (.r (.v (.iface t (.agg #[])))):=by
 refine⟨fun i b h=>by simp at h,fun i hi=>by simp[AV.ids]at hi,fun a w Z M hr _=>?_⟩
 have h1:=hr x (by simp[Op.operands])
 rw[hx,AV.rep]at h1
 obtain⟨us,e1,h2⟩:=h1
 rw[AV.reps]at h2
 have e2:us= #[]:=by apply Array.ext';rw[h2]
 refine⟨.iface t (.agg #[]),?_,by rw[AV.rep,RV.rep]⟩
 simp only[execOp,e1,e2,Instr.makeInterface,Sem.run_bind,run_underlying hu,Result.andThen_ok,Sem.run_pure]
end
end Go.Ab
