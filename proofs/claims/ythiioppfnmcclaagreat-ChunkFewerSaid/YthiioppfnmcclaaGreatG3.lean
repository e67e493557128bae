/- Texts of the second layer in one: Ab12 Aw Ab13 Ab14 Ab15 Ab16 Ab17. -/
import Derived.Test.YthiioppfnmcclaaGreatG2
import Derived.Maps.AppendAt
import Derived.Deep.DeepAppendWide
import Derived.ArgAppend
import Derived.OwnWalk
import Derived.Laws.BytesArg
import Derived.Laws.Strings
import Derived.Laws.StructEq
set_option linter.unusedVariables false
set_option linter.unusedSimpArgs false
namespace Go.Ab
open Go.RowKit
def zdJ (P:Program) (f:FuncId):Bool:=match P.funcs[f]? with |some fn=> !(fn.name == "runtime.NumGoroutine") && fn.body.isSome|none=>false
theorem zfc {P:Program} {f:FuncId} {xs:Array Operand} {ats:Array TypeId} {d:Option Tmp} {ty:TypeId} {pos:String} {af:Array Edge} {g:Option (Nat×Bool)} (hf:zdJ P f=true) (a:Act) (w:World):
  (execOp a.eval ⟨d,.call { callee:=.value (.func f),args:=xs,argTypes:=ats},ty,pos,af,g⟩).run P w= .ok (.enter f (xs.map a.eval)) w:=by
 unfold zdJ at hf
 split at hf
 ·rename_i fn hfn
  rw[Bool.and_eq_true]at hf
  have h1:(fn.name == "runtime.NumGoroutine")=false:=by simpa using hf.1
  have h2:fn.body.isNone=false:=by cases hb:fn.body<;>simp_all
  have h3:(callFunc f (xs.map a.eval)).run P w= .ok (.enter f (xs.map a.eval)) w:=by
   unfold callFunc
   simp only[program,Sem.run_bind,Sem.run,Result.andThen_ok,hfn,h1,h2]
   simp
  have h4:a.eval (.func f)= .func (.func f) #[] #[]:=rfl
  simp only[execOp,resolve,h4,Deferred.ofValue,Sem.run_bind,Sem.run_pure,Result.andThen_ok,invoke]
  simpa using h3
 ·cases hf
section
variable {H:Nat→Option Blk} {ρ:Nat→Nat} {G:List Nat} {env:Nat→AV} {x:Operand} {as ds:List AV}
theorem zdL:CfL H ρ G [] []:=.nil
theorem cl_r {c c':RV} (h:CfL H ρ G as ds) (e:c=c') (hx:evA env x= .r c):CfL H ρ G (evA env x::as) (.r c'::ds):=by subst e;rw[hx];exact .cons _ _ _ _ (.r _) h
theorem zdK {k:IntKind} {m p:Int} (h:CfL H ρ G as ds) (e:m=p) (hx:evA env x= .r (.v (.int k m))):CfL H ρ G (evA env x::as) (.r (.v (.int k p))::ds):=cl_r h (by rw[e]) hx
theorem zjO {i j o:Nat} (h:CfL H ρ G as ds) (e:ρ i=j) (hx:evA env x= .pt j o):CfL H ρ G (evA env x::as) (.pt i o::ds):=by subst e;rw[hx];exact .cons _ _ _ _ (.pt _ _) h
theorem zjN {i j:Nat} (h:CfL H ρ G as ds) (e:ρ i=j) (hx:evA env x= .ow j):CfL H ρ G (evA env x::as) (.ow i::ds):=by subst e;rw[hx];exact .cons _ _ _ _ (.ow _) h
theorem zjM {sz:Nat} (h:CfL H ρ G as ds) (hx:evA env x= .r (.v (.slice none 0 0))):CfL H ρ G (evA env x::as) (.r (.sl sz [])::ds):=by rw[hx];exact .cons _ _ _ _ (.nl _) h
theorem zoP {j T sz:Nat} {es es':List (List RV)} (h:CfL H ρ G as ds) (e:es=es') (hg:j∈G) (hj:H j=some (.row T sz es)) (hx:evA env x= .ow j):CfL H ρ G (evA env x::as) (.r (.sl sz es')::ds):=by subst e;rw[hx];exact .cons _ _ _ _ (.fz _ _ _ _ hj hg) h
end
def RV.val (c:RV):Prop:=∃x,c= .v x
mutual
def AV.vals:AV→Prop
 |.r c=>c.val
 |.rp _=>False
 |.fr _ _ es=>∀e∈es,∀c∈e,c.val
 |.ag cs=>AV.valss cs
 |.tu cs=>AV.valss cs
 |.cl _ _=>False
 |_=>True
def AV.valss:List AV→Prop
 |[]=>True
 |c::cs=>c.vals∧AV.valss cs
end
section
variable {B B':Nat→Prop} {Z:Nat→Value} {w:World}
theorem RVs.vals {cs:List RV} {us:List Value} (h:RVs B w cs us) (hv:∀c∈cs,c.val):RVs B' w cs us:=by
 induction h with
 |nil=>exact .nil
 |cons h1 h2 _ ih=>
  refine .cons h1 ?_ (ih fun c hc=>hv c (by simp[hc]))
  obtain⟨x,rfl⟩:=hv _ (List.mem_cons_self)
  rw[RV.rep]at h2 ⊢;exact h2
mutual
theorem AV.rep_vals:∀(a:AV) (_:a.vals) (k:Nat) (u:Value),(a.unfr k).1.rep Z B w u→(a.unfr k).1.rep Z B' w u
 |.r c,h,k,u,hr=>by
  obtain⟨x,rfl⟩:c.val:=by simpa only[AV.vals]using h
  simp only[AV.unfr,AV.rep,RV.rep]at hr ⊢;exact hr
 |.rp cs,h,k,u,hr=>by simp only[AV.vals]at h
 |.ow i,h,k,u,hr=>by simp only[AV.unfr,AV.rep]at hr ⊢;exact hr
 |.pt i o,h,k,u,hr=>by simp only[AV.unfr,AV.rep]at hr ⊢;exact hr
 |.pe i sz q f,h,k,u,hr=>by simp only[AV.unfr,AV.rep]at hr ⊢;exact hr
 |.fr T sz es,h,k,u,hr=>by simp only[AV.unfr,AV.rep]at hr ⊢;exact hr
 |.na,h,k,u,hr=>by simp only[AV.unfr,AV.rep]
 |.ol i n,h,k,u,hr=>by simp only[AV.unfr,AV.rep]at hr ⊢;exact hr
 |.sv i n,h,k,u,hr=>by simp only[AV.unfr,AV.rep]at hr ⊢;exact hr
 |.so i o n c,h,k,u,hr=>by simp only[AV.unfr,AV.rep]at hr ⊢;exact hr
 |.cl f cs,h,k,u,hr=>by simp only[AV.vals]at h
 |.ag cs,h,k,u,hr=>by
  simp only[AV.unfr,AV.rep]at hr ⊢
  obtain⟨us,e,h1⟩:=hr
  exact⟨us,e,AV.reps_vals cs (by simpa only[AV.vals]using h) k _ h1⟩
 |.tu cs,h,k,u,hr=>by
  simp only[AV.unfr,AV.rep]at hr ⊢
  obtain⟨us,e,h1⟩:=hr
  exact⟨us,e,AV.reps_vals cs (by simpa only[AV.vals]using h) k _ h1⟩
theorem AV.reps_vals:∀(as:List AV) (_:AV.valss as) (k:Nat) (us:List Value),AV.reps Z B w (AV.unfrs as k).1 us→AV.reps Z B' w (AV.unfrs as k).1 us
 |[],_,k,us,h=>by simp only[AV.unfrs,AV.reps]at h ⊢;exact h
 |a::as,hv,k,us,h=>by
  simp only[AV.valss]at hv
  simp only[AV.unfrs,AV.reps]at h ⊢
  obtain⟨u,us',e,h1,h2⟩:=h
  exact⟨u,us',e,AV.rep_vals a hv.1 k u h1,AV.reps_vals as hv.2 _ us' h2⟩
end
mutual
theorem zbR:∀(a:AV) (k:Nat),∀b∈(a.unfr k).2,∃T sz es,b= .row T sz es∧(a.vals→∀e∈es,∀c∈e,c.val)
 |.r c,k,b,h=>by simp[AV.unfr]at h
 |.rp c,k,b,h=>by simp[AV.unfr]at h
 |.ow i,k,b,h=>by simp[AV.unfr]at h
 |.pt i o,k,b,h=>by simp[AV.unfr]at h
 |.pe i sz q f,k,b,h=>by simp[AV.unfr]at h
 |.fr T sz es,k,b,h=>by
  simp only[AV.unfr,List.mem_cons,List.not_mem_nil,or_false]at h
  exact⟨T,sz,es,h,fun hv=>by simpa only[AV.vals]using hv⟩
 |.na,k,b,h=>by simp[AV.unfr]at h
 |.ol i n,k,b,h=>by simp[AV.unfr]at h
 |.sv i n,k,b,h=>by simp[AV.unfr]at h
 |.so i o n c,k,b,h=>by simp[AV.unfr]at h
 |.cl f cs,k,b,h=>by simp[AV.unfr]at h
 |.ag cs,k,b,h=>by
  simp only[AV.unfr]at h
  obtain⟨T,sz,es,e,hv⟩:=zfD cs k b h
  exact⟨T,sz,es,e,fun h=>hv (by simpa only[AV.vals]using h)⟩
 |.tu cs,k,b,h=>by
  simp only[AV.unfr]at h
  obtain⟨T,sz,es,e,hv⟩:=zfD cs k b h
  exact⟨T,sz,es,e,fun h=>hv (by simpa only[AV.vals]using h)⟩
theorem zfD:∀(as:List AV) (k:Nat),∀b∈(AV.unfrs as k).2,∃T sz es,b= .row T sz es∧(AV.valss as→∀e∈es,∀c∈e,c.val)
 |[],k,b,h=>by simp[AV.unfrs]at h
 |a::as,k,b,h=>by
  simp only[AV.unfrs,List.mem_append]at h
  rcases h with h|h
  ·obtain⟨T,sz,es,e,hv⟩:=zbR a k b h
   exact⟨T,sz,es,e,fun h=>hv (by simp only[AV.valss]at h;exact h.1)⟩
  ·obtain⟨T,sz,es,e,hv⟩:=zfD as _ b h
   exact⟨T,sz,es,e,fun h=>hv (by simp only[AV.valss]at h;exact h.2)⟩
end
end
section
variable {P:Program} {L:Ln} {N:Nat} {ops:Array Oper} {chk:List (Nat×Sp)→Bool} {Q:St→Prop} {l:List Oper} {E:List (Nat×AV)} {H:List (Nat×Option Blk)} {n:Nat} {tr:List (Nat×Sp)}
variable {d:Nat} {ty:TypeId} {pos:String} {af:Array Edge} {g:Option (Nat×Bool)}
def rngB (a:AV) (n m:Nat):Bool:=a.ids.all fun i=>Nat.ble n i && Nat.blt i (n+m)
theorem zdy {f:FuncId} {xs:Array Operand} {ats:Array TypeId} {ds:List AV} {r:AV} (G:List Nat) (rd:List (Nat×Blk)) (hm:zam P f ds [] r []) (hargs:CfL (getH H) (fun i=>i) G (xs.toList.map (evA (get E))) ds) (hf:zdJ P f=true)
  (hrd:∀g∈G,∃b,(g,b)∈rd∧getH H g=some b) (hrd2:∀i b,(i,b)∈rd→getH H i=some b) (hv:G=[]∨r.vals) (hds:AV.idss ds=[]) (hrng:rngB (r.unfr n).1 n (r.unfr n).2.length=true)
  (hd:Nat.blt d N=true) (hg:za3 ops (get E) ⟨some d,.call { callee:=.value (.func f),args:=xs,argTypes:=ats},ty,pos,af,g⟩ true)
  (h:wpA P L N ops chk Q l ⟨(d,(r.unfr n).1)::E,frsL n (r.unfr n).2++H,n+(r.unfr n).2.length⟩ ((n,⟨true,rd,(r.unfr n).1,[],(r.unfr n).2⟩)::tr)):
  wpA P L N ops chk Q (⟨some d,.call { callee:=.value (.func f),args:=xs,argTypes:=ats},ty,pos,af,g⟩::l) ⟨E,H,n⟩ tr:=by
 refine⟨⟨true,rd,(r.unfr n).1,[],(r.unfr n).2⟩,⟨fun x hx=>?_,hg,fun _ a w Z M hM hr hh hdist=>?_,(fun h=>by cases h),fun D hD hDH hfree=>?_⟩,h⟩
 ·injection hx with hx;subst hx;exact za2.1 hd
 ·have hr':∀x∈xs.toList,(evA (get E) x).rep Z M w (a.eval x):=fun x hx=>hr x (by show x∈(#[Operand.func f]++xs).toList;rw[Array.toList_append];exact List.mem_append_right _ hx)
  have hreps:AV.reps Z M w (xs.toList.map (evA (get E))) (xs.toList.map a.eval):=by
   revert hr'
   generalize xs.toList=ys
   intro hr'
   induction ys with
   |nil=>rw[List.map_nil,AV.reps];rfl
   |cons y ys ih=>rw[List.map_cons,List.map_cons,AV.reps];exact⟨_,_,rfl,hr' y (by simp),ih fun x hx=>hr' x (by simp[hx])⟩
  have hargs':=CfL.reps (Z:=Z) (Z':=Z) (B:=M) (B':=fun q=>M q∧∀g∈G,blk (Z g)≠some q) (w:=w) (fun _ _ h=>h.1) (fun j b hj hb=>by
   obtain⟨b',h1,h2⟩:=hrd j hj
   rw[hb]at h2
   injection h2 with h2
   subst h2
   exact⟨(hh j b h1).1,fun x hx hn=>hn.2 j hj hx⟩) hargs (fun _ _=>rfl) _ hreps
  have hc:=hm w Z (fun q=>M q∧∀g∈G,blk (Z g)≠some q) n (xs.toList.map a.eval) (fun q hq=>hM q hq.1) (Nat.zero_le _) hargs' (fun i b h=>by simp[numd]at h) (fun i j b c h=>by simp[numd]at h)
  refine zcm (zfc hf a w) ?_
  have he:(xs.toList.map a.eval).toArray=xs.map a.eval:=by rw[←Array.toList_map]
  rw[he]at hc
  refine hc.mono fun e w' ⟨v,h1,Z1,A⟩=>⟨v,h1,Z1,?_⟩
  have hN:∀q,New n (zaq n [] r []) Z1 (fun q=>M q∧∀g∈G,blk (Z g)≠some q) q→New n ⟨true,rd,(r.unfr n).1,[],(r.unfr n).2⟩ Z1 M q:=fun q hq=>hq.imp (fun h=>h.1) id
  have hN2:G=[]→∀q,New n ⟨true,rd,(r.unfr n).1,[],(r.unfr n).2⟩ Z1 M q→New n (zaq n [] r []) Z1 (fun q=>M q∧∀g∈G,blk (Z g)≠some q) q:=fun e q hq=>hq.imp (fun h=>⟨h,fun g hg=>by rw[e]at hg;cases hg⟩) id
  refine⟨A.z,?_,fun i b h=>by simp at h,fun j b hj=>?_,A.dist,fun j x hj hx=>?_,A.upto.mono fun x _ ⟨i,o,hi,_⟩=>by simp[zaq,zaM]at hi⟩
  ·rcases hv with e|hv
   ·exact AV.rep_mono (Upto.refl _) (fun q _ hq=>hN2 e q hq) _ (fun _ _=>rfl) _ A.out
   ·exact AV.rep_vals r hv n v A.out
  ·have h2:=A.fr j b hj
   obtain⟨T,sz,es,rfl,hes⟩:=zbR r n b (List.mem_of_getElem? hj)
   rcases hv with e|hv
   ·exact h2.anti fun q _ hq=>hN2 e q hq
   ·obtain⟨us,g1,g2,g3⟩:=h2
    exact⟨us,g1,g2.vals fun c hc=>by
     obtain⟨e,he,hce⟩:=List.mem_flatten.1 hc
     exact hes hv e he c hce,g3⟩
  ·rcases A.fresh j x hj hx with h|⟨i,hi,_⟩
   ·exact .inl h
   ·simp[zaq,zaM]at hi
 ·refine⟨hrd2,fun i o h=>by simp at h,fun i o h=>by simp at h,fun i h=>by simp at h,hfree,fun i hi=>.inr ?_,fun b hb i hi=>?_,fun i b h=>by simp at h⟩
  ·have :=List.all_eq_true.1 hrng i hi
   rw[Bool.and_eq_true,zbv,za2]at this
   exact this
  ·obtain⟨T,sz,es,rfl,_⟩:=zbR r n b hb
   simp[Blk.ids]at hi
def pairs:List Nat→List (Option Blk)→List (Nat×Option Blk)
 |j::js,b::bs=>(j,b)::pairs js bs
 |_,_=>[]
theorem zbc:∀{js:List Nat} {bs:List (Option Blk)} {i:Nat} {b:Option Blk},(i,b)∈pairs js bs↔∃q:Nat,js[q]? =some i∧bs[q]? =some b
 |[],bs,i,b=>by simp[pairs]
 |j::js,[],i,b=>by simp[pairs]
 |j::js,c::bs,i,b=>by
  rw[pairs,List.mem_cons,zbc (js:=js) (bs:=bs)]
  constructor
  ·rintro(e|⟨q,h1,h2⟩)
   ·injection e with e1 e2;subst e1 e2;exact⟨0,rfl,rfl⟩
   ·exact⟨q+1,by simpa using h1,by simpa using h2⟩
  ·rintro⟨q,h1,h2⟩
   cases q with
   |zero=>simp at h1 h2;subst h1 h2;exact .inl rfl
   |succ q=>exact .inr ⟨q,by simpa using h1,by simpa using h2⟩
def rdOf:List Nat→List Blk→List (Nat×Blk)
 |j::js,b::bs=>(j,b)::rdOf js bs
 |_,_=>[]
theorem zcF:∀{js:List Nat} {bs:List Blk} {i:Nat} {b:Blk},(i,b)∈rdOf js bs↔∃q:Nat,js[q]? =some i∧bs[q]? =some b
 |[],bs,i,b=>by simp[rdOf]
 |j::js,[],i,b=>by simp[rdOf]
 |j::js,c::bs,i,b=>by
  rw[rdOf,List.mem_cons,zcF (js:=js) (bs:=bs)]
  constructor
  ·rintro(e|⟨q,h1,h2⟩)
   ·injection e with e1 e2;subst e1 e2;exact⟨0,rfl,rfl⟩
   ·exact⟨q+1,by simpa using h1,by simpa using h2⟩
  ·rintro⟨q,h1,h2⟩
   cases q with
   |zero=>simp at h1 h2;subst h1 h2;exact .inl rfl
   |succ q=>exact .inr ⟨q,by simpa using h1,by simpa using h2⟩
theorem zcb:∀{js:List Nat} {bs:List (Option Blk)} {i:Nat} {b:Option Blk},js.Nodup→(i,b)∈pairs js bs→(pairs js bs).lookup i=some b
 |[],bs,i,b,_,h=>by simp[pairs]at h
 |j::js,[],i,b,_,h=>by simp[pairs]at h
 |j::js,c::bs,i,b,hn,h=>by
  rw[List.nodup_cons]at hn
  rw[pairs,List.mem_cons]at h
  rw[pairs,List.lookup_cons]
  rcases h with e|h
  ·injection e with e1 e2;subst e1 e2;simp
  ·have hne:i≠j:=by
    rintro rfl
    obtain⟨q,h1,_⟩:=zbc.1 h
    exact hn.1 (List.mem_of_getElem? h1)
   have :(i == j)=false:=by simpa using hne
   rw[this]
   exact zcb hn.2 h
theorem zax {Z Z':Nat→Value} {B B':Nat→Prop} {w:World} {i i':Nat} {b:Blk} (h:held Z B w i b) (hz:Z' i'=Z i) (hid:b.ids=[]) (hB:∀q,q<w.heap.size→B' q→B q):held Z' B' w i' b:=by
 cases b with
 |row T sz es=>
  obtain⟨us,h1,h2,h3⟩:=h
  exact⟨us,by rw[hz];exact h1,h2.mono (Upto.refl _) hB,h3⟩
 |full T sz es=>
  obtain⟨q,us,fr,h1,h2,h3,h4,h5⟩:=h
  exact⟨q,us,fr,hz.trans h1,h2,h3,h4.mono (Upto.refl _) hB,h5⟩
 |var T cs=>
  obtain⟨q,us,h1,h2,h3,h4⟩:=h
  exact⟨q,us,hz.trans h1,h2,AV.reps_mono (Upto.refl _) hB cs (fun j hj=>by rw[show AV.idss cs=[] from hid]at hj;cases hj) _ h3,h4⟩
 |rowk T sz es n c=>
  obtain⟨g,us,h1,h2,h3,h4,h5⟩:=h
  exact⟨g,us,hz.trans h1,h2,h3,h4.mono (Upto.refl _) hB,h5⟩
 |rowo T sz es cs=>
  obtain⟨us,vs,h1,h2,h3,h4⟩:=h
  exact⟨us,vs,by rw[hz];exact h1,h2.mono (Upto.refl _) hB,AV.reps_mono (Upto.refl _) hB cs (fun j hj=>by rw[show AV.idss cs=[] from hid]at hj;cases hj) _ h3,h4⟩
 |mp l=>
  obtain⟨q,es,clock,h1,h2,h3⟩:=h
  exact⟨q,es,clock,hz.trans h1,h2,h3⟩
 |obj o=>
  obtain⟨q,h1,h2⟩:=h
  exact⟨q,hz.trans h1,h2⟩
 |gl g o=>exact⟨hz.trans h.1,h.2⟩
def preB (J:List Nat) (n:Nat) (pre:List Blk) (post:List (Option Blk)) (ds:List AV) (L:Ln):Bool:=
 Nat.ble J.length n && (J.all fun j=>Nat.blt j n) && decide J.Nodup && Nat.beq pre.length J.length && Nat.beq post.length J.length && (pre.all fun b=>b.ids.isEmpty) && (post.all fun b=>match b with |some b=>b.ids.isEmpty|none=>true) &&
 ((AV.idss ds).all fun i=>Nat.blt i J.length) && (pairs J post).all fun p=>match p.2 with |none=>Nat.blt p.1 L.m || Nat.ble L.n p.1|some _=>true
theorem zhG {J:List Nat} {q i:Nat} (h:J[q]? =some i):J.getD q 0=i:=by rw[List.getD_eq_getElem?_getD,h];rfl
theorem za4 {α:Type} {l:List α} {q:Nat} {x:α} (h:l[q]? =some x):q<l.length:=by
 rcases Nat.lt_or_ge q l.length with h'|h'
 ·exact h'
 ·rw[List.getElem?_eq_none h']at h;cases h
theorem zcW {f:FuncId} {xs:Array Operand} {ats:Array TypeId} {ds:List AV} {r:AV} (J:List Nat) (pre:List Blk) (post:List (Option Blk)) (hm:zam P f ds pre r post) (hargs:CfL (getH H) (fun i=>J.getD i 0) [] (xs.toList.map (evA (get E))) ds) (hf:zdJ P f=true)
  (hH:∀i b,(i,b)∈rdOf J pre→getH H i=some b) (hpre:preB J n pre post ds L=true) (hrng:rngB (r.unfr n).1 n (r.unfr n).2.length=true)
  (hd:Nat.blt d N=true) (hg:za3 ops (get E) ⟨some d,.call { callee:=.value (.func f),args:=xs,argTypes:=ats},ty,pos,af,g⟩ true)
  (h:wpA P L N ops chk Q l ⟨(d,(r.unfr n).1)::E,frsL n (r.unfr n).2++(pairs J post++H),n+(r.unfr n).2.length⟩ ((n,⟨true,rdOf J pre,(r.unfr n).1,pairs J post,(r.unfr n).2⟩)::tr)):
  wpA P L N ops chk Q (⟨some d,.call { callee:=.value (.func f),args:=xs,argTypes:=ats},ty,pos,af,g⟩::l) ⟨E,H,n⟩ tr:=by
 unfold preB at hpre
 simp only[Bool.and_eq_true,zbv,List.all_eq_true,za2,decide_eq_true_eq]at hpre
 obtain⟨⟨⟨⟨⟨⟨⟨⟨b1,b2⟩,b3⟩,b4⟩,b5⟩,b6⟩,b7⟩,b8⟩,b9⟩:=hpre
 have b4:=Nat.eq_of_beq_eq_true b4
 have b5:=Nat.eq_of_beq_eq_true b5
 have hmem:∀q,q<J.length→J.getD q 0∈J:=fun q hq=>by rw[List.getD_eq_getElem?_getD,List.getElem?_eq_getElem hq];exact List.getElem_mem hq
 have hJq:∀q,q<J.length→J[q]? =some (J.getD q 0):=fun q hq=>by rw[List.getD_eq_getElem?_getD,List.getElem?_eq_getElem hq];rfl
 refine⟨⟨true,rdOf J pre,(r.unfr n).1,pairs J post,(r.unfr n).2⟩,⟨fun x hx=>?_,hg,fun _ a w Z M hM hr hh hdist=>?_,(fun h=>by cases h),fun D hD hDH hfree=>?_⟩,h⟩
 ·injection hx with hx;subst hx;exact za2.1 hd
 ·have hr':∀x∈xs.toList,(evA (get E) x).rep Z M w (a.eval x):=fun x hx=>hr x (by show x∈(#[Operand.func f]++xs).toList;rw[Array.toList_append];exact List.mem_append_right _ hx)
  have hreps:AV.reps Z M w (xs.toList.map (evA (get E))) (xs.toList.map a.eval):=by
   revert hr'
   generalize xs.toList=ys
   intro hr'
   induction ys with
   |nil=>rw[List.map_nil,AV.reps];rfl
   |cons y ys ih=>rw[List.map_cons,List.map_cons,AV.reps];exact⟨_,_,rfl,hr' y (by simp),ih fun x hx=>hr' x (by simp[hx])⟩
  let Zc:Nat→Value:=fun i=>if i<J.length then Z (J.getD i 0)else Z i
  have hZc:∀i,i<J.length→Zc i=Z (J.getD i 0):=fun i hi=>if_pos hi
  have hargs':=CfL.reps (Z:=Z) (Z':=Zc) (B:=M) (B':=M) (w:=w) (fun _ _ h=>h) (fun j b hj hb=>by cases hj) hargs (fun i hi=>hZc i (b8 i hi)) _ hreps
  have hrdq:∀i b,(i,b)∈numd 0 pre→i<J.length∧(J.getD i 0,b)∈rdOf J pre∧b∈pre:=by
   intro i b hib
   have h1:=(zdp.1 hib).2
   rw[Nat.sub_zero]at h1
   have h2:=za4 h1
   exact⟨by omega,zcF.2 ⟨i,hJq i (by omega),h1⟩,List.mem_of_getElem? h1⟩
  have hinj:∀i j,i<J.length→j<J.length→i≠j→J.getD i 0≠J.getD j 0:=by
   intro i j hi hj hij he
   have h1:=hJq i hi
   have h2:=hJq j hj
   rw[List.getElem?_eq_getElem hi]at h1
   rw[List.getElem?_eq_getElem hj]at h2
   injection h1 with h1
   injection h2 with h2
   have hp:=List.pairwise_iff_getElem.1 b3
   rcases Nat.lt_trichotomy i j with h|h|h
   ·exact hp i j hi hj h (by rw[h1,h2,he])
   ·exact hij h
   ·exact hp j i hj hi h (by rw[h1,h2,he])
  have hc:=hm w Zc M n (xs.toList.map a.eval) hM (by omega) hargs' (fun i b hib=>by
   obtain⟨h1,h2,h3⟩:=hrdq i b hib
   obtain⟨h4,h5⟩:=hh _ b h2
   exact⟨zax h4 (hZc i h1) (by simpa using b6 b h3) (fun _ _ h=>h),fun x hx=>h5 x (by rw[←hZc i h1];exact hx)⟩) (fun i j b c hi hj hij x hx=>by
   obtain⟨h1,h2,_⟩:=hrdq i b hi
   obtain⟨h3,h4,_⟩:=hrdq j c hj
   rw[hZc i h1]at hx
   rw[hZc j h3]
   exact hdist _ _ b c h2 h4 (hinj i j h1 h3 hij) x hx)
  refine zcm (zfc hf a w) ?_
  have he:(xs.toList.map a.eval).toArray=xs.map a.eval:=by rw[←Array.toList_map]
  rw[he]at hc
  refine hc.mono fun e w' ⟨v,h1,Z1,A⟩=>⟨v,h1,fun i=>if n≤i∧i<n+(r.unfr n).2.length then Z1 i else Z i,?_⟩
  generalize hZ2:(fun i=>if n≤i∧i<n+(r.unfr n).2.length then Z1 i else Z i)=Z2
  have z1:∀i,n≤i→i<n+(r.unfr n).2.length→Z2 i=Z1 i:=fun i h1 h2=>by rw[←hZ2];exact if_pos ⟨h1,h2⟩
  have z2:∀i,(i<n∨n+(r.unfr n).2.length≤i)→Z2 i=Z i:=fun i h1=>by rw[←hZ2];exact if_neg (by omega)
  have hN:∀q,q<w'.heap.size→New n ⟨true,rdOf J pre,(r.unfr n).1,pairs J post,(r.unfr n).2⟩ Z2 M q→New n (zaq n pre r post) Z1 M q:=by
   rintro q _ (h0|⟨j,hj,hq⟩)
   ·exact .inl h0
   ·have hj':j<(r.unfr n).2.length:=hj
    rw[z1 (n+j) (by omega) (by omega)]at hq
    exact .inr ⟨j,hj,hq⟩
  have hup:∀j o,(j,o)∈pairs J post↔∃q,q<J.length∧J.getD q 0=j∧(q,o)∈zaM 0 post:=by
   intro j o
   rw[zbc]
   constructor
   ·rintro⟨q,h1,h2⟩
    exact⟨q,za4 h1,zhG h1,zaK.2 ⟨Nat.zero_le _,by simpa using h2⟩⟩
   ·rintro⟨q,h1,h2,h3⟩
    exact⟨q,by rw[hJq q h1,h2],by simpa using(zaK.1 h3).2⟩
  have hnl:∀q o,(q,o)∈zaM 0 post→q<J.length:=fun q o h=>by
   have :=za4 (zaK.1 h).2
   omega
  refine⟨z2,?_,fun j b hjb=>?_,fun j b hj=>?_,fun j j' x hj hj' hne h3 h4=>?_,fun j x hj hx=>?_,A.upto.mono fun x _ ⟨i,o,hi,hx⟩=>?_⟩
  ·refine AV.rep_mono (Upto.refl _) hN _ (fun i hi=>?_) _ A.out
   have :=List.all_eq_true.1 hrng i hi
   rw[Bool.and_eq_true,zbv,za2]at this
   exact z1 i this.1 this.2
  ·obtain⟨q,h2,h3,h4⟩:=(hup j (some b)).1 hjb
   have h5:=A.up q b h4
   refine zax h5 ?_ ?_ hN
   ·rw[z2 j (.inl (b2 j (h3▸hmem q h2))),A.z q (.inl (by omega)),hZc q h2,h3]
   ·have h6:=(zaK.1 h4).2
    have :=b7 _ (List.mem_of_getElem? h6)
    simpa using this
  ·obtain⟨T,sz,es,rfl,_⟩:=zbR r n b (List.mem_of_getElem? hj)
   have hjl:=za4 hj
   have hjl':j<(r.unfr n).2.length:=hjl
   exact zax (A.fr j _ hj) (z1 (n+j) (by omega) (by omega)) rfl hN
  ·have k1:j<(r.unfr n).2.length:=hj
   have k2:j'<(r.unfr n).2.length:=hj'
   have h3':blk (Z2 (n+j))=some x:=h3
   have h4':blk (Z2 (n+j'))=some x:=h4
   rw[z1 (n+j) (by omega) (by omega)]at h3'
   rw[z1 (n+j') (by omega) (by omega)]at h4'
   exact A.dist j j' x hj hj' hne h3' h4'
  ·have k1:j<(r.unfr n).2.length:=hj
   have hx':blk (Z2 (n+j))=some x:=hx
   rw[z1 (n+j) (by omega) (by omega)]at hx'
   rcases A.fresh j x hj hx' with h|⟨i,hi,hix⟩
   ·exact .inl h
   ·have k2:=hnl i _ hi
    rw[hZc i k2]at hix
    exact .inr ⟨J.getD i 0,(hup _ _).2 ⟨i,k2,rfl,hi⟩,hix⟩
  ·have k2:=hnl i _ hi
   rw[hZc i k2]at hx
   exact⟨J.getD i 0,o,(hup _ _).2 ⟨i,k2,rfl,hi⟩,hx⟩
 ·refine⟨hH,fun i o h=>?_,fun i o h=>zcb b3 h,fun i h=>?_,hfree,fun i hi=>.inr ?_,fun b hb i hi=>?_,fun i b hib i' hi'=>?_⟩
  ·obtain⟨q,h1,h2⟩:=zbc.1 h
   have h3:=za4 h1
   exact⟨pre[q]'(by omega),zcF.2 ⟨q,h1,List.getElem?_eq_getElem _⟩⟩
  ·have :=b9 _ h
   simp only[Bool.or_eq_true,za2,zbv]at this
   exact this
  ·have :=List.all_eq_true.1 hrng i hi
   rw[Bool.and_eq_true,zbv,za2]at this
   exact this
  ·obtain⟨T,sz,es,rfl,_⟩:=zbR r n b hb
   simp[Blk.ids]at hi
  ·obtain⟨q,h1,h2⟩:=zbc.1 hib
   have :=b7 _ (List.mem_of_getElem? h2)
   have :b.ids=[]:=by simpa using this
   rw[this]at hi'
   cases hi'
end
end Go.Ab
namespace Go.Ab
open Go
theorem zf4 {k b:Nat} (h:k*b≤211106232532992) (hb:b≤4096):(k+k/4+192)*b≤281474976710656:=by
 have h1:k/4*b*4≤k*b:=by
  rw[Nat.mul_right_comm];exact Nat.mul_le_mul_right _ (Nat.div_mul_le_self k 4)
 rw[Nat.add_mul,Nat.add_mul]
 have h2:192*b≤192*4096:=Nat.mul_le_mul_left _ hb
 omega
variable {P:Program} (w:World)
theorem run_append_wide_at (base:Nat) (t ty e:TypeId) (i:TypeInfo) (z:Value) (size bytes:Nat) (ht:P.underlying t=some (.slice e)) (hi:P.info? e=some i) (hz:i.zero=some z)
  (hsize:i.size=size) (hby:i.bytes=bytes) (hzs:z.cells.size=size) (hsz:0<size)
  (v:Value) (n:Nat) (xs:List Value) (hown:w.ownsRow base e size v n xs)
  (a:Addr) (m c:Nat) (news:List Value) (hl:news.length=m*size) (hnews:∀j u,news[j]? =some u→w.cell? (a.add j)=some u) (h1:∀u∈news,u.oneCell'=true)
  (h63:n+m≤maxLen) (hbytes:((n+m)+(n+m)/4+192)*bytes≤281474976710656) (hbase:base≤w.heap.size):
  ∃v' w',(Builtin.append_ #[t,t] ty #[v,.slice (some a) m c]).run P w= .ok v' w'∧w'.ownsRow base e size v' (n+m) (xs++news)∧w.grownBy w' v.ownBlock∧
   (v'= .slice none 0 0↔v= .slice none 0 0∧m=0)∧(v'.ownBlock=v.ownBlock∨v'.ownBlock=some w.heap.size):=by
 obtain⟨v',w',hr,h2,h3,h4⟩:=run_append_own_wide (P:=P) w base t ty e i z size bytes ht hi hz hsize hby hzs hsz v n xs hown a m c news hl hnews h1 h63 hbytes hbase
 refine⟨v',w',hr,h2,h3,h4,?_⟩
 subst hsize
 subst hby
 have h6:n+m≤9223372036854775807:=by simp only[maxLen]at h63;omega
 rcases hown.2 with⟨rfl,rfl⟩|⟨g,cap,cur,rfl,hbg,hg,hnc,hcm,hcs,htake⟩
 ·by_cases hm:m=0
  ·rw[h4.2 ⟨rfl,hm⟩];exact .inl rfl
  ·have hk:=run_append_nil (P:=P) w t ty e i z ht hi hz a m c news hl hnews (by omega) (by omega) (by
    refine Nat.le_trans (Nat.mul_le_mul_right _ ?_) hbytes
    omega)
   have he:=hr.symm.trans hk
   injection he with e1 e2
   rw[e1]
   exact .inr rfl
 ·by_cases hroom:n+m≤cap
  ·have hfit:n*i.size+news.length≤cur.size:=by rw[hl,hcs,←Nat.add_mul];exact Nat.mul_le_mul_right _ hroom
   have he:=hr.symm.trans (run_append_room (P:=P) w t ty e i ht hi g n cap cur hg a m c news hl hnews h1 hroom hfit)
   injection he with e1 e2
   rw[e1]
   exact .inl rfl
  ·have holds:∀j u,xs[j]? =some u→w.cell? ((⟨g,0,none⟩:Addr).add j)=some u:=hown.cells (g:=g) rfl
   have he:=hr.symm.trans (run_append_grow (P:=P) w t ty e i z ht hi hz ⟨g,0,none⟩ n cap xs hown.1 holds a m c news hl hnews (by omega) (by omega) (growslice_fits_wide (by omega) hbytes))
   injection he with e1 e2
   rw[e1]
   exact .inr rfl
end Go.Ab
namespace Go.Ab
open Go.RowKit
def rvs:AV→Option (List RV)
 |.r c=>some [c]
 |.ag cs=>cs.mapM fun c=>match c with |.r c=>some c|_=>none
 |_=>none
def rvOk:RV→Bool
 |.v x=>x.oneCell'
 |.sl _ _=>true
theorem zmI {B:Nat→Prop} {w:World} {c:RV} {u:Value} (h:RV.rep B w c u) (hc:rvOk c=true):u.oneCell'=true∧u.cells= #[u]:=by
 cases c with
 |v x=>rw[RV.rep]at h;subst h;refine⟨hc,?_⟩;simp only[rvOk]at hc;cases u<;>first|rfl|(simp[Value.oneCell']at hc)
 |sl sz es=>rw[RV.rep]at h;obtain⟨A,c,rfl,_⟩:=h;exact⟨rfl,rfl⟩
theorem zmJ {Z:Nat→Value} {B:Nat→Prop} {w:World}:∀(cs:List AV) (e:List RV) (us:List Value),(cs.mapM fun c=>match c with |.r c=>some c|_=>none)=some e→e.all rvOk=true→AV.reps Z B w cs us→RVs B w e us
 |[],e,us,h,_,hr=>by rw[AV.reps]at hr;subst hr;simp at h;subst h;exact .nil
 |c::cs,e,us,h,ho,hr=>by
  rw[AV.reps]at hr
  obtain⟨u,us',rfl,h1,h2⟩:=hr
  rw[List.mapM_cons]at h
  cases c with
  |r c=>
   cases hm:(cs.mapM fun c=>match c with |.r c=>some c|_=>none)with
   |none=>rw[hm]at h;simp at h
   |some e'=>
    rw[hm]at h
    simp at h
    subst h
    rw[List.all_cons,Bool.and_eq_true]at ho
    rw[AV.rep]at h1
    exact .cons (zmI h1 ho.1).1 h1 (zmJ cs e' us' hm ho.2 h2)
  |_=>simp at h
theorem zkE {Z:Nat→Value} {B:Nat→Prop} {w:World} {a:AV} {e:List RV} {u:Value} (h:rvs a=some e) (ho:e.all rvOk=true) (hr:a.rep Z B w u):RVs B w e u.cells.toList:=by
 cases a with
 |r c=>
  simp only[rvs,Option.some.injEq]at h
  subst h
  rw[AV.rep]at hr
  simp only[List.all_cons,List.all_nil,Bool.and_true]at ho
  obtain⟨h1,h2⟩:=zmI hr ho
  rw[h2]
  exact .cons h1 hr .nil
 |ag cs=>rw[AV.rep]at hr;obtain⟨us,rfl,h2⟩:=hr;exact zmJ cs e _ h ho h2
 |_=>simp[rvs]at h
section
variable {P:Program} {L:Ln} {N:Nat} {ops:Array Oper} {chk:List (Nat×Sp)→Bool} {Q:St→Prop} {l:List Oper} {E:List (Nat×AV)} {H:List (Nat×Option Blk)} {n:Nat} {tr:List (Nat×Sp)}
variable {d:Nat} {ty:TypeId} {pos:String} {af:Array Edge} {g:Option (Nat×Bool)} {t:TypeId} {x y:Operand}
def elsB (sz:Nat) (es:List (List RV)):Bool:=es.all fun e=>Nat.beq e.length sz && e.all rvOk
theorem zhy {e sz b:Nat} [hT:SlT P t e sz b] {o:Option Tmp} {m:Nat} (xs:List Operand) {parts:Array (Nat×Operand)} {es:List (List RV)} (hp:parts.toList=xs.zipIdx.map fun p=>(p.2,p.1)) (hm:m=xs.length)
  (hes:xs.map (fun x=>rvs (evA (get E) x))=es.map some) (hok:elsB sz es=true) (hsm:Nat.ble (m*sz) 16777216=true):∀(a:Act) (w:World) (Z:Nat→Value) (M:Nat→Prop),(∀x∈(Op.buildSlice t m parts).operands.toList,(evA (get E) x).rep Z M w (a.eval x))→
   ∃us:List Value,(execOp a.eval ⟨o,.buildSlice t m parts,ty,pos,af,g⟩).run P w= .ok (.value (.slice (some ⟨w.heap.size,0,none⟩) m m)) (w.alloc (.cells us.toArray e))∧RVs M w es.flatten us∧us.length=m*sz∧es.length=m∧(∀e∈es,e.length=sz)∧m≤m*sz∧m*sz≤16777216:=by
 intro a w Z M hr
 have hlen:es.length=xs.length:=by have :=congrArg List.length hes;simpa using this.symm
 have hr':∀x∈xs,(evA (get E) x).rep Z M w (a.eval x):=fun x hx=>hr x (by
  show x∈((parts.toList.map (·.2)).toArray).toList
  rw[hp]
  simp only[List.map_map,List.toList_toArray]
  refine List.mem_map.2 ?_
  obtain⟨i,hi,e⟩:=List.getElem_of_mem hx
  exact⟨(x,i),by rw[List.mem_iff_getElem?];exact⟨i,by simp[hi,e]⟩,rfl⟩)
 unfold elsB at hok
 rw[List.all_eq_true]at hok
 -- each part's cells
 have key:∀(xs:List Operand) (es:List (List RV)),(∀x∈xs,(evA (get E) x).rep Z M w (a.eval x))→xs.map (fun x=>rvs (evA (get E) x))=es.map some→(∀e∈es,(Nat.beq e.length sz && e.all rvOk)=true)→
   RVs M w es.flatten ((xs.map a.eval).flatMap fun v=>v.cells.toList)∧∀v∈xs.map a.eval,v.cells.size=sz:=by
  intro xs
  induction xs with
  |nil=>
   intro es _ h _
   have :es=[]:=by cases es with |nil=>rfl|cons e es=>simp at h
   subst this
   exact⟨.nil,by simp⟩
  |cons x xs ih=>
   intro es hx h ho
   cases es with
   |nil=>simp at h
   |cons e es=>
    simp only[List.map_cons,List.cons.injEq]at h
    obtain⟨i1,i2⟩:=ih es (fun y hy=>hx y (by simp[hy])) h.2 (fun e he=>ho e (by simp[he]))
    have h3:=ho e (by simp)
    rw[Bool.and_eq_true]at h3
    have h4:=zkE h.1 h3.2 (hx x (by simp))
    refine⟨?_,?_⟩
    ·rw[List.flatten_cons,List.map_cons,List.flatMap_cons]
     exact h4.append i1
    ·intro v hv
     rw[List.map_cons,List.mem_cons]at hv
     rcases hv with rfl|hv
     ·have :=h4.len
      rw[Nat.eq_of_beq_eq_true h3.1]at this
      simpa using this.symm
     ·exact i2 v hv
 obtain⟨k1,k2⟩:=key xs es hr' hes hok
 obtain⟨i,z,t1,t2,t3,t4,t5⟩:=SlT.inf (P:=P) (t:=t) (e:=e) (sz:=sz) (b:=b)
 have tu:=SlT.und (P:=P) (t:=t) (e:=e) (sz:=sz) (b:=b)
 have tp:=SlT.pos (P:=P) (t:=t) (e:=e) (sz:=sz) (b:=b)
 have hsm:=zbv.1 hsm
 have hev:(parts.map fun p=>(p.1,a.eval p.2)).toList=((xs.map a.eval).zipIdx 0).map fun x=>(x.2,x.1):=by
  rw[Array.toList_map,hp,List.zipIdx_map,List.map_map,List.map_map]
  rfl
 have hcl:((xs.map a.eval).flatMap fun v=>v.cells.toList).length=m*sz:=by
  rw[←k1.len,zbW sz es (fun e he=>by have :=hok e he;rw[Bool.and_eq_true]at this;exact Nat.eq_of_beq_eq_true this.1),hlen,hm]
 have hrun:(Instr.buildSlice t m (parts.map fun p=>(p.1,a.eval p.2))).run P w= .ok (.slice (some ⟨w.heap.size,0,none⟩) m m) (w.alloc (.cells ((xs.map a.eval).flatMap fun v=>v.cells.toList).toArray e)):=by
  by_cases h0:m=0
  ·subst h0
   have :xs=[]:=List.eq_nil_of_length_eq_zero hm.symm
   subst this
   have hp':parts= #[]:=by apply Array.ext';simpa using hp
   subst hp'
   have hz:Array.map (fun _=>(default:Value)) (Array.range 0)= #[]:=by apply Array.ext';simp
   simp[Instr.buildSlice,run_underlying tu,sizeOf,typeInfo,t1,Instr.fill,newRow]
   rw[hz]
  ·refine run_buildSlice w t e m _ _ i z tu t1 t2 (by rw[t3];omega) (by rw[t3];exact Nat.mul_ne_zero h0 (by omega)) ?_
   rw[hev,t3]
   exact Great.fill_whole tp _ _ k2 (by simp[hm])
 have hexec:(execOp a.eval ⟨o,.buildSlice t m parts,ty,pos,af,g⟩).run P w= .ok (.value (.slice (some ⟨w.heap.size,0,none⟩) m m)) (w.alloc (.cells ((xs.map a.eval).flatMap fun v=>v.cells.toList).toArray e)):=by
  have :(parts.map fun(i,x)=>(i,a.eval x))=parts.map fun p=>(p.1,a.eval p.2):=rfl
  simp only[execOp,this,Sem.run_bind,hrun,Result.andThen_ok,Sem.run_pure]
 exact⟨_,hexec,k1,hcl,by rw[hlen,hm],fun e he=>by have :=hok e he;rw[Bool.and_eq_true]at this;exact Nat.eq_of_beq_eq_true this.1,Nat.le_mul_of_pos_right _ tp,hsm⟩
theorem zaB {e sz b:Nat} [hT:SlT P t e sz b] {o:Option Tmp} {HF:Nat→Option Blk} {k m:Nat} (xs:List Operand) {parts:Array (Nat×Operand)} {es:List (List RV)} (hp:parts.toList=xs.zipIdx.map fun p=>(p.2,p.1)) (hm:m=xs.length)
  (hes:xs.map (fun x=>rvs (evA (get E) x))=es.map some) (hok:elsB sz es=true) (hsm:Nat.ble (m*sz) 16777216=true):ze2 P ⟨o,.buildSlice t m parts,ty,pos,af,g⟩ (get E) HF [] k (.ow k) (.row e sz es):=by
 refine⟨fun i b h=>zaH h,rfl,fun i hi=>by simp[Blk.ids]at hi,fun a w Z M hM hr _=>?_⟩
 obtain⟨us,h1,h2,h3,h4,h5,h6,h7⟩:=zhy (P:=P) (t:=t) (o:=o) (ty:=ty) (pos:=pos) (af:=af) (g:=g) xs hp hm hes hok hsm a w Z M hr
 refine⟨_,.slice (some ⟨w.heap.size,0,none⟩) m m,_,h1,(Below.refl _ _).alloc (Nat.le_refl _) _,fun q hq=>by simp[blk]at hq;omega,fun Z' hz' hzo=>⟨by rw[AV.rep,hz'],fun _=>?_⟩⟩
 refine⟨us,⟨by rw[h3,h4],.inr ⟨w.heap.size,m,_,by rw[hz',h4],Nat.zero_le _,zdP _ _,by omega,by unfold maxLen;omega,by simpa using h3,?_⟩⟩,?_,h5⟩
 ·rw[List.take_of_length_le (by simp only[h3,h4];exact Nat.le_refl _)]
 ·exact h2.mono (Upto.alloc (M:=M) w _) (fun q hq hb=>by
   rcases hb with hb|hb
   ·exact hb
   ·simp[blk]at hb;omega)
theorem zfJ {e sz b:Nat} [hT:SlT P t e sz b] (w:World) (ty:TypeId) (v:Value) (n m c:Nat) (xs news:List Value) (hown:w.ownsRow 0 e sz v n xs) (A:Option Addr) (hl:news.length=m*sz) (hA:m≠0→∃ad,A=some ad∧∀j u,news[j]? =some u→w.cell? (ad.add j)=some u) (h1:∀u∈news,u.oneCell'=true)
  (hb:(n+m)*b≤211106232532992) (h63:n+m≤maxLen):
  ∃v' w',(Builtin.append_ #[t,t] ty #[v,.slice A m c]).run P w= .ok v' w'∧w'.ownsRow 0 e sz v' (n+m) (xs++news)∧w.grownBy w' v.ownBlock∧(v'.ownBlock=v.ownBlock∨v'.ownBlock=some w.heap.size):=by
 obtain⟨i,z,t1,t2,t3,t4,t5⟩:=SlT.inf (P:=P) (t:=t) (e:=e) (sz:=sz) (b:=b)
 have tu:=SlT.und (P:=P) (t:=t) (e:=e) (sz:=sz) (b:=b)
 have tp:=SlT.pos (P:=P) (t:=t) (e:=e) (sz:=sz) (b:=b)
 rcases A with _|ad
 ·have hm:m=0:=by
   rcases Nat.eq_zero_or_pos m with h|h
   ·exact h
   ·obtain⟨ad,h2,_⟩:=hA (by omega);cases h2
  subst hm
  have hn:news=[]:=List.eq_nil_of_length_eq_zero (by omega)
  subst hn
  refine⟨v,w,?_,by simpa using hown,World.grownBy.refl w _,.inl rfl⟩
  rcases hown.2 with⟨rfl,rfl⟩|⟨g,cap,cur,rfl,_,_,hnc,_⟩
  ·simp[Builtin.append_,run_underlying tu,sizeOf,typeInfo,t1,Builtin.lenOf,Builtin.firstCells]
  ·simp[Builtin.append_,run_underlying tu,sizeOf,typeInfo,t1,Builtin.lenOf,Builtin.firstCells,hnc,storeCells]
 ·by_cases hm:m=0
  ·subst hm
   have hn:news=[]:=List.eq_nil_of_length_eq_zero (by omega)
   subst hn
   obtain⟨v',w',h2,h3,h4,_,h5⟩:=run_append_wide_at (P:=P) w 0 t ty e i z sz b tu t1 t2 t3 t4 t5 tp v n xs hown ad 0 c [] (by simp) (fun j u h=>by simp at h) h1 (by omega) (zf4 hb (SlT.small (P:=P) (t:=t) (e:=e) (sz:=sz))) (Nat.zero_le _)
   exact⟨v',w',h2,h3,h4,h5⟩
  ·obtain⟨ad',e1,hc⟩:=hA hm
   injection e1 with e1
   subst e1
   obtain⟨v',w',h2,h3,h4,_,h5⟩:=run_append_wide_at (P:=P) w 0 t ty e i z sz b tu t1 t2 t3 t4 t5 tp v n xs hown ad m c news hl hc h1 h63 (zf4 hb (SlT.small (P:=P) (t:=t) (e:=e) (sz:=sz))) (Nat.zero_le _)
   exact⟨v',w',h2,h3,h4,h5⟩
theorem zgj {w:World} {T sz n:Nat} {v:Value} {us:List Value} (h:w.ownsRow 0 T sz v n us):v.ownBlock=blk v∧∃A c,v= .slice A n c:=by
 rcases h.2 with⟨rfl,rfl⟩|⟨g,cap,cur,rfl,_⟩
 ·exact⟨rfl,_,_,rfl⟩
 ·exact⟨rfl,_,_,rfl⟩
inductive Src (env:Nat→AV) (H:Nat→Option Blk) (T sz:Nat) (x:Operand):List (List RV)→List (Nat×Blk)→Prop
 |sl (es):evA env x= .r (.sl sz es)→Src env H T sz x es []
 |ow (j) (es):evA env x= .ow j→H j=some (.row T sz es)→Src env H T sz x es [(j,.row T sz es)]
 |nl:evA env x= .r (.v (.slice none 0 0))→Src env H T sz x [] []
 |so (j o n c T') (cs) (es):evA env x= .so j o n c→H j=some (.var T' cs)→es.length=n→(cs.drop o).take n=es.flatten.map .r→(∀e∈es,e.length=sz)→sz=1→Src env H T sz x es [(j,.var T' cs)]
theorem zfW {Z:Nat→Value} {B:Nat→Prop} {w:World}:∀(k:Nat) {cs:List AV} {us:List Value},AV.reps Z B w cs us→AV.reps Z B w (cs.drop k) (us.drop k)
 |0,cs,us,h=>by simpa using h
 |k+1,[],us,h=>by rw[AV.reps]at h;subst h;simp[AV.reps]
 |k+1,c::cs,us,h=>by
  rw[AV.reps]at h
  obtain⟨u,us',rfl,_,h⟩:=h
  simpa using zfW k h
theorem zfX {Z:Nat→Value} {B:Nat→Prop} {w:World}:∀(k:Nat) {cs:List AV} {us:List Value},AV.reps Z B w cs us→AV.reps Z B w (cs.take k) (us.take k)
 |0,cs,us,h=>by simp[AV.reps]
 |k+1,[],us,h=>by rw[AV.reps]at h;subst h;simp[AV.reps]
 |k+1,c::cs,us,h=>by
  rw[AV.reps]at h
  obtain⟨u,us',rfl,h1,h⟩:=h
  rw[List.take_succ_cons,List.take_succ_cons,AV.reps]
  exact⟨u,_,rfl,h1,zfX k h⟩
theorem zfy {Z:Nat→Value} {B:Nat→Prop} {w:World}:∀{cs:List RV} {us:List Value},AV.reps Z B w (cs.map .r) us→(∀u∈us,u.oneCell'=true)→RVs B w cs us
 |[],us,h,_=>by rw[List.map_nil,AV.reps]at h;subst h;exact .nil
 |c::cs,us,h,ho=>by
  rw[List.map_cons,AV.reps]at h
  obtain⟨u,us',rfl,h1,h⟩:=h
  rw[AV.rep]at h1
  exact .cons (ho u (by simp)) h1 (zfy h (fun x hx=>ho x (by simp[hx])))
theorem Src.val {env:Nat→AV} {HF:Nat→Option Blk} {T sz:Nat} {x:Operand} {es:List (List RV)} {rd:List (Nat×Blk)} (h:Src env HF T sz x es rd) {Z:Nat→Value} {M:Nat→Prop} {w:World} {u:Value} (hr:(evA env x).rep Z M w u) (hh:∀i b,(i,b)∈rd→held Z M w i b):
  ∃A c news,u= .slice A es.length c∧news.length=es.length*sz∧(es.length≠0→∃ad,A=some ad∧∀j v,news[j]? =some v→w.cell? (ad.add j)=some v)∧RVs M w es.flatten news∧(∀e∈es,e.length=sz):=by
 cases h with
 |sl es hx=>
  rw[hx,AV.rep,RV.rep]at hr
  obtain⟨A,c,rfl,_,_,h4,h5⟩:=hr
  by_cases he:es=[]
  ·subst he;exact⟨A,c,[],rfl,by simp,fun h=>absurd rfl h,.nil,by simp⟩
  ·obtain⟨ad,rfl,_,_,h6⟩:=h5 he
   rw[RV.rows_flat,RV.row_vals]at h6
   obtain⟨news,h7,h8⟩:=h6
   exact⟨_,c,news,rfl,by rw[←h7.len,zbW sz es h4],fun _=>⟨ad,rfl,fun j v hj=>by have :=h8 j v hj;rwa [Nat.zero_add]at this⟩,h7,h4⟩
 |ow j es hx hj=>
  rw[hx,AV.rep]at hr
  subst hr
  obtain⟨us,h1,h2,h3⟩:=hh j (.row T sz es) (by simp)
  rcases h1.2 with⟨h4,h5⟩|⟨g,cap,cur,h4,_,hg,h6,_,_,h7⟩
  ·have :es=[]:=List.eq_nil_of_length_eq_zero h5
   subst this
   exact⟨none,0,[],h4,by simp,fun h=>absurd rfl h,.nil,by simp⟩
  ·refine⟨_,cap,us,h4,h1.1,fun _=>⟨_,rfl,fun k v hk=>?_⟩,h2,h3⟩
   rw[add_mid,Nat.zero_add,cell_of_row w g k cur T (0,0) hg]
   rw[←h7,List.getElem?_take]at hk
   split at hk
   ·simpa using hk
   ·cases hk
 |nl hx=>
  rw[hx,AV.rep,RV.rep]at hr
  exact⟨none,0,[],hr,by simp,fun h=>absurd rfl h,.nil,by simp⟩
 |so j o n c T' cs es hx hj hl hcs h1 hs1=>
  subst hs1 hl
  rw[hx,AV.rep]at hr
  obtain⟨b,hb,rfl⟩:=hr
  obtain⟨b',us,h2,h3,h4,h5⟩:=hh j (.var T' cs) (by simp)
  rw[h2]at hb
  simp only[blk,Option.some.injEq]at hb
  subst hb
  have h6:=zfX es.length (zfW o h4)
  rw[hcs]at h6
  have h7:RVs M w es.flatten ((us.toList.drop o).take es.length):=zfy h6 (fun u hu=>by
   have :=List.mem_of_mem_drop (List.mem_of_mem_take hu)
   rw[Array.all_eq_true_iff_forall_mem]at h5
   exact h5 u (by simpa using this))
  refine⟨some ⟨b',o,none⟩,c,_,rfl,?_,fun _=>⟨_,rfl,fun k v hk=>?_⟩,h7,h1⟩
  ·rw[←h7.len,zbW 1 es h1]
  ·rw[add_mid,cell_of_row w b' _ us T' (0,0) h3]
   rw[List.getElem?_take]at hk
   split at hk
   ·rw[List.getElem?_drop]at hk;simpa using hk
   ·cases hk
theorem Src.rdH {env:Nat→AV} {HF:Nat→Option Blk} {T sz:Nat} {x:Operand} {es:List (List RV)} {rd:List (Nat×Blk)} (h:Src env HF T sz x es rd):∀i b,(i,b)∈rd→HF i=some b:=by
 cases h with
 |sl es hx=>intro i b h;cases h
 |nl hx=>intro i b h;cases h
 |so j o n c T' cs es hx hj _ _ _ _=>intro i b h;simp only[List.mem_cons,List.not_mem_nil,or_false,Prod.mk.injEq]at h;obtain⟨rfl,rfl⟩:=h;exact hj
 |ow j es hx hj=>intro i b h;simp only[List.mem_cons,List.not_mem_nil,or_false,Prod.mk.injEq]at h;obtain⟨rfl,rfl⟩:=h;exact hj
theorem zcz {α:Type} {x y:α} (h:x∈[y]):x=y:=by simpa using h
theorem zaw {e sz b i:Nat} [hT:SlT P t e sz b] {es es':List (List RV)} {rd:List (Nat×Blk)} (hx:evA (get E) x= .ow i) (hi:getH H i=some (.row e sz es)) (hs:Src (get E) (getH H) e sz y es' rd) (hne:(rd.all fun p=> !Nat.beq p.1 i)=true)
  (hlen:(es.length+es'.length)*b≤211106232532992∧es.length+es'.length≤211106232532992) (hloc:(Nat.blt i L.m || Nat.ble L.n i)=true)
  (hd:Nat.blt d N=true) (hg:za3 ops (get E) ⟨some d,.call { callee:=.builtin .append,args:= #[x,y],argTypes:= #[t,t]},ty,pos,af,g⟩ true)
  (h:wpA P L N ops chk Q l ⟨(d,.ow n)::E,(n,some (.row e sz (es++es')))::(i,none)::H,n+1⟩ ((n,⟨true,(i,.row e sz es)::rd,.ow n,[(i,none)],[.row e sz (es++es')]⟩)::tr)):
  wpA P L N ops chk Q (⟨some d,.call { callee:=.builtin .append,args:= #[x,y],argTypes:= #[t,t]},ty,pos,af,g⟩::l) ⟨E,H,n⟩ tr:=by
 refine⟨⟨true,(i,.row e sz es)::rd,.ow n,[(i,none)],[.row e sz (es++es')]⟩,⟨fun x hx=>?_,hg,fun _ a w Z M hM hr hh hdist=>?_,(fun h=>by cases h),fun D hD hDH hf=>?_⟩,h⟩
 ·injection hx with hx;subst hx;exact za2.1 hd
 ·have hxr:(evA (get E) x).rep Z M w (a.eval x):=hr x (by simp[Op.operands,Call.operands])
  have hyr:(evA (get E) y).rep Z M w (a.eval y):=hr y (by simp[Op.operands,Call.operands])
  rw[hx,AV.rep]at hxr
  obtain⟨⟨us,h1,h2,h3⟩,hMi⟩:=hh i (.row e sz es) (by simp)
  obtain⟨A,c,news,h4,h5,h6,h7,h8⟩:=hs.val hyr (fun j b hj=>(hh j b (List.mem_cons_of_mem _ hj)).1)
  obtain⟨v',w',h9,h10,h11,h12⟩:=zfJ (P:=P) (t:=t) w ty (Z i) es.length es'.length c us news h1 A h5 h6 h7.one hlen.1 (by unfold maxLen;omega)
  have hex:(execOp a.eval ⟨some d,.call { callee:=.builtin .append,args:= #[x,y],argTypes:= #[t,t]},ty,pos,af,g⟩).run P w= .ok (.value v') w':=by
   simp only[execOp,resolve,invoke,builtin,Sem.run_bind,Sem.run_pure,Result.andThen_ok,List.map_toArray,List.map_cons,List.map_nil,hxr,h4,h9]
  obtain⟨b1,A1,c1,b2⟩:=zgj h1
  obtain⟨b3,A2,c2,b4⟩:=zgj h10
  have hU:Upto (fun q=>blk (Z i)=some q) w w':=⟨h11.os,h11.tape,h11.output,h11.size,fun q hq hne=>h11.block q hq (fun e=>hne (by rw[←b1];exact e.symm))⟩
  have hU':Upto M w w':=hU.mono fun q _ hq=>hMi q hq
  have hz1:(fun j=>if j=n then v' else Z j) n=v':=by simp
  refine zc2 hex ⟨fun j=>if j=n then v' else Z j,fun j hj=>?_,by rw[AV.rep];simp,fun j c hj=>?_,fun j c hj=>?_,fun j j' q hj hj' hne=>?_,fun j q hj hq=>?_,hU.mono fun q _ hq=>⟨i,none,by simp,hq⟩⟩
  ·have :j≠n:=by simp at hj;omega
   simp[this]
  ·have :=zcz hj;cases this
  ·have hj0:j=0:=by
    cases j with
    |zero=>rfl
    |succ j=>simp at hj
   subst hj0
   have :c= .row e sz (es++es'):=by simpa using hj.symm
   subst this
   have hB:∀q,q<w.heap.size→New n ⟨true,(i,.row e sz es)::rd,.ow n,[(i,none)],[.row e sz (es++es')]⟩ (fun j=>if j=n then v' else Z j) M q→M q:=by
    rintro q hq (h0|⟨j,hj,hjq⟩)
    ·exact h0
    ·have :j=0:=by simpa using hj
     subst this
     simp only[Nat.add_zero,if_pos]at hjq
     rw[b3,b1]at h12
     rcases h12 with h12|h12
     ·exact hMi q (by rw[←h12];exact hjq)
     ·rw[h12]at hjq;injection hjq with hjq;omega
   refine⟨us++news,?_,?_,fun e he=>?_⟩
   ·simp only[Nat.add_zero,if_pos,List.length_append]
    exact h10
   ·rw[List.flatten_append]
    exact(h2.mono hU' hB).append (h7.mono hU' hB)
   ·rcases List.mem_append.1 he with he|he
    ·exact h3 e he
    ·exact h8 e he
  ·simp at hj hj';omega
  ·have :j=0:=by simpa using hj
   subst this
   have hq':blk v'=some q:=by simpa using hq
   rw[b3,b1]at h12
   rcases h12 with h12|h12
   ·exact .inr ⟨i,by simp,by rw[←h12];exact hq'⟩
   ·rw[h12]at hq';injection hq' with hq';exact .inl (by omega)
 ·refine⟨fun j b hj=>?_,fun j o ho=>?_,fun j o ho=>?_,fun j ho=>?_,hf,fun j hj=>.inr ?_,fun b hb j hj=>?_,fun j b hb=>?_⟩
  ·rcases List.mem_cons.1 hj with e1|e1
   ·injection e1 with e1 e2;subst e1 e2;exact hi
   ·exact hs.rdH j b e1
  ·have :=zcz ho
   injection this with e1 e2
   subst e1
   exact⟨.row e sz es,by simp⟩
  ·have :=zcz ho
   injection this with e1 e2
   subst e1 e2
   simp[List.lookup_cons]
  ·have :=zcz ho
   injection this with e1 e2
   subst e1
   rw[Bool.or_eq_true,za2,zbv]at hloc
   exact hloc
  ·have :j=n:=by simpa[AV.ids]using hj
   subst this
   simp
  ·have :=zcz hb
   subst this
   simp[Blk.ids]at hj
  ·have :=zcz hb;cases this
end
/-! ## Cuts of slices that are only read -/
section
variable {P:Program} {env:Nat→AV} {H:Nat→Option Blk} {d:Option Tmp} {ty:TypeId} {pos:String} {af:Array Edge} {g:Option (Nat×Bool)}
variable {t:TypeId} {x y z:Operand} {sz:Nat} {es:List (List RV)}
theorem zd3 {k:IntKind} (j m:Nat) (c:BoundsCode) (h:j≤m) (w:World):(Instr.sliceBound (.int k (j:Int)) m c).run P w= .ok j w:=by
 simp[Instr.sliceBound,asIntOf,h]
theorem zhC {e b:Nat} [hT:SlT P t e sz b] {Z:Nat→Value} {M:Nat→Prop} {w:World} {u:Value} {j m:Nat} (hr:(AV.r (.sl sz es)).rep Z M w u) (hj:j≤m) (hm:m≤es.length):
  ∃A n c,u= .slice A n c∧n=es.length∧n≤c∧((AV.r (.sl sz ((es.drop j).take (m-j)))).rep Z M w (.slice (if c=j then A else A.map (·.add (j*sz))) (m-j) (c-j))):=by
 rw[AV.rep,RV.rep]at hr
 obtain⟨A,c,rfl,h2,h3,h4,h5⟩:=hr
 refine⟨A,_,c,rfl,rfl,h2,?_⟩
 rw[AV.rep,RV.rep]
 have hl:((es.drop j).take (m-j)).length=m-j:=by rw[List.length_take,List.length_drop];omega
 refine⟨_,c-j,by rw[hl],by omega,by omega,fun e he=>h4 e (List.mem_of_mem_drop (List.mem_of_mem_take he)),fun hne=>?_⟩
 have hjm:j<m:=by
  rcases Nat.lt_or_ge j m with h|h
  ·exact h
  ·exact absurd (List.eq_nil_of_length_eq_zero (by omega)) hne
 obtain⟨ad,rfl,h6,h7,h8⟩:=h5 (by rintro rfl;simp at hm;omega)
 rw[if_neg (by omega)]
 refine⟨ad.add (j*sz),rfl,by rw[add_block];exact h6,by rw[add_block];exact h7,?_⟩
 rw[RV.rows_flat]at h8 ⊢
 rw[RV.row_add]
 have f1:=(zaR sz es h4 j).1
 have f2:=(zaR sz (es.drop j) (fun e he=>h4 e (List.mem_of_mem_drop he)) (m-j)).2
 rw[f2,f1]
 have :=RV.row_take (RV.row_drop h8 (j*sz)) ((m-j)*sz)
 rwa [Nat.zero_add]at this
theorem zfx {e b:Nat} [hT:SlT P t e sz b] (A:Option Addr) (n c j m:Nat) (lo hi:Option Value) (hlo:(lo=none∧j=0)∨∃k,lo=some (.int k (j:Int))) (hhi:(hi=none∧m=n)∨∃k,hi=some (.int k (m:Int))) (hj:j≤m) (hm:m≤n) (hc:n≤c) (w:World):
  (Instr.sliceAt t (.slice A n c) lo hi none).run P w= .ok (.slice (if c=j then A else A.map (·.add (j*sz))) (m-j) (c-j)) w:=by
 obtain⟨i,z,t1,t2,t3,t4,t5⟩:=SlT.inf (P:=P) (t:=t) (e:=e) (sz:=sz) (b:=b)
 have tu:=SlT.und (P:=P) (t:=t) (e:=e) (sz:=sz) (b:=b)
 have hs:(sizeOf e).run P w= .ok sz w:=by simp[sizeOf,typeInfo,t1,t3]
 have hbd:(Instr.sliceBounds true n c lo hi none).run P w= .ok (j,m,c) w:=by
  rcases hlo with⟨rfl,rfl⟩|⟨k,rfl⟩<;>rcases hhi with⟨rfl,rfl⟩|⟨k',rfl⟩
  ·simp[Instr.sliceBounds]
  ·simp[Instr.sliceBounds,zd3 _ _ _ (show m≤c by omega)]
  ·simp[Instr.sliceBounds,zd3 _ _ _ hj]
  ·simp[Instr.sliceBounds,zd3 _ _ _ hj,zd3 _ _ _ (show m≤c by omega)]
 simp only[Instr.sliceAt,Sem.run_bind,run_underlying tu,Result.andThen_ok,Instr.slice,hbd,hs,Sem.run_pure]
theorem zmE {e b:Nat} [hT:SlT P t e sz b] {k k':IntKind} {a c:Int} {j m:Nat} (hx:evA env x= .r (.sl sz es)) (hy:evA env y= .r (.v (.int k a))) (hz:evA env z= .r (.v (.int k' c))) (ha:a=(j:Int)) (hc:c=(m:Int)) (hj:j≤m) (hm:m≤es.length):
  zav P ⟨d,.slice t x (some y) (some z) none,ty,pos,af,g⟩ env H [] (.r (.sl sz ((es.drop j).take (m-j)))):=by
 subst ha hc
 refine⟨fun i b h=>zaH h,fun i hi=>by simp[AV.ids]at hi,fun ac w Z M hr _=>?_⟩
 have h1:=hr x (by simp[Op.operands])
 have h2:=ev_v hy (hr y (by simp[Op.operands]))
 have h3:=ev_v hz (hr z (by simp[Op.operands]))
 rw[hx]at h1
 obtain⟨A,n,cc,h4,h5,h6,h7⟩:=zhC (P:=P) (t:=t) h1 hj hm
 refine⟨_,?_,h7⟩
 simp only[execOp,h4,Option.map_some,Option.map_none,h2,h3,Sem.run_bind,zfx (P:=P) (t:=t) A n cc j m _ _ (.inr ⟨k,rfl⟩) (.inr ⟨k',rfl⟩) hj (by omega) h6,Result.andThen_ok,Sem.run_pure]
theorem zmG {e b:Nat} [hT:SlT P t e sz b] {k:IntKind} {a:Int} {j:Nat} (hx:evA env x= .r (.sl sz es)) (hy:evA env y= .r (.v (.int k a))) (ha:a=(j:Int)) (hj:j≤es.length):
  zav P ⟨d,.slice t x (some y) none none,ty,pos,af,g⟩ env H [] (.r (.sl sz (es.drop j))):=by
 subst ha
 refine⟨fun i b h=>zaH h,fun i hi=>by simp[AV.ids]at hi,fun ac w Z M hr _=>?_⟩
 have h1:=hr x (by simp[Op.operands])
 have h2:=ev_v hy (hr y (by simp[Op.operands]))
 rw[hx]at h1
 obtain⟨A,n,cc,h4,h5,h6,h7⟩:=zhC (P:=P) (t:=t) h1 hj (Nat.le_refl _)
 have e:(es.drop j).take (es.length-j)=es.drop j:=List.take_of_length_le (by rw[List.length_drop];exact Nat.le_refl _)
 rw[e]at h7
 refine⟨_,?_,h7⟩
 simp only[execOp,h4,Option.map_some,Option.map_none,h2,Sem.run_bind,zfx (P:=P) (t:=t) A n cc j es.length _ _ (.inr ⟨k,rfl⟩) (.inl ⟨rfl,h5.symm⟩) hj (by omega) h6,Result.andThen_ok,Sem.run_pure]
theorem zmF {e b:Nat} [hT:SlT P t e sz b] {k:IntKind} {a:Int} {m:Nat} (hx:evA env x= .r (.sl sz es)) (hy:evA env y= .r (.v (.int k a))) (ha:a=(m:Int)) (hm:m≤es.length):
  zav P ⟨d,.slice t x none (some y) none,ty,pos,af,g⟩ env H [] (.r (.sl sz (es.take m))):=by
 subst ha
 refine⟨fun i b h=>zaH h,fun i hi=>by simp[AV.ids]at hi,fun ac w Z M hr _=>?_⟩
 have h1:=hr x (by simp[Op.operands])
 have h2:=ev_v hy (hr y (by simp[Op.operands]))
 rw[hx]at h1
 obtain⟨A,n,cc,h4,h5,h6,h7⟩:=zhC (P:=P) (t:=t) h1 (Nat.zero_le m) hm
 rw[List.drop_zero,Nat.sub_zero]at h7
 refine⟨_,?_,h7⟩
 have :=zfx (P:=P) (t:=t) A n cc 0 m none (some (.int k (m:Int))) (.inl ⟨rfl,rfl⟩) (.inr ⟨k,rfl⟩) (Nat.zero_le _) (by omega) h6
 rw[Nat.sub_zero]at this
 simp only[execOp,h4,Option.map_some,Option.map_none,h2,Sem.run_bind,this,Result.andThen_ok,Sem.run_pure]
end
/-! ## Struct literals -/
def plTB (P:Program) (t:Nat) (pl:List (Nat×Nat)):Bool:=match P.underlying t with |some (.struct fs)=>decide ((fs.toList.mapM fun f=>(P.info? f.type).map fun i=>(f.offset,i.size))=some pl)|_=>false
class PlT (P:Program) (t:Nat) (pl:outParam (List (Nat×Nat))):Prop where ok:plTB P t pl=true
def zgW (pl:List (Nat×Nat)):List AV→List (Nat×AV)→Option (List AV)
 |cs,[]=>some cs
 |cs,(i,a)::rest=>match pl[i]? with
  |none=>none
  |some (off,sz)=>bif Nat.beq (cellsA a).length sz && Nat.ble (off+sz) cs.length then zgW pl (setA cs off (cellsA a)) rest else none
def zfn (rd:List (Nat×Blk)):AV→Bool
 |.ow i=>rd.any fun p=>Nat.beq p.1 i && (match p.2 with |.row _ _ _=>true|_=>false)
 |a=>valB a
theorem zlT {Z:Nat→Value} {B:Nat→Prop} {w:World} {rd:List (Nat×Blk)} {a:AV} {v:Value} (ho:zfn rd a=true) (hh:∀i b,(i,b)∈rd→held Z B w i b) (hr:a.rep Z B w v):AV.reps Z B w (cellsA a) v.cells.toList:=by
 cases a with
 |ow i=>
  simp only[zfn,List.any_eq_true,Bool.and_eq_true]at ho
  obtain⟨⟨j,b⟩,h1,h2,h3⟩:=ho
  have :=Nat.eq_of_beq_eq_true h2
  simp only at this
  subst this
  cases b with
  |var T cs=>simp at h3
  |rowk T sz es n c=>simp at h3
  |rowo T sz es cs=>simp at h3
  |mp l=>simp at h3
  |obj o=>simp at h3
  |gl g o=>simp at h3
  |full T sz es=>simp at h3
  |row T sz es=>
   obtain⟨us,h4,_⟩:=hh _ _ h1
   obtain⟨_,A,c,h5⟩:=zgj h4
   have hr':=hr
   rw[AV.rep]at hr
   rw[h5]at hr
   subst hr
   simp only[cellsA,Value.cells]
   rw[AV.reps]
   exact⟨_,[],rfl,hr',by rw[AV.reps]⟩
 |_=>exact(zbV hr (by simpa only[zfn]using ho)).1
theorem zi5 (off:Nat) (vs:List Value) (cells:Array Value) (h:off+vs.length≤cells.size):((vs.zipIdx 0).foldl (fun cs (x:Value×Nat)=>cs.setIfInBounds (off+x.2) x.1) cells).toList=setA cells.toList off vs:=by
 obtain⟨h1,h2⟩:=Great.foldl_set off vs 0 cells
 apply List.ext_getElem?
 intro k
 have h3:=h2 k
 rw[show ∀a:Array Value,a.toList[k]? =a[k]? from fun a=>by simp,h3]
 unfold setA
 by_cases hk:off≤k∧k<off+vs.length
 ·rw[if_pos (by omega)]
  rw[List.getElem?_append_left (by simp;omega),List.getElem?_append_right (by simp;omega)]
  simp
  congr 1
  omega
 ·rw[if_neg (by omega)]
  rcases Nat.lt_or_ge k off with h4|h4
  ·rw[List.getElem?_append_left (by simp;omega),List.getElem?_append_left (by simp;omega),List.getElem?_take,if_pos h4]
   simp
  ·rw[List.getElem?_append_right (by simp;omega),List.getElem?_drop]
   simp
   congr 1
   omega
theorem zih {Z:Nat→Value} {B:Nat→Prop} {w:World} (pl:List (Nat×Nat)):∀(ps:List (Nat×AV)) (vs:List (Nat×Value)) (cs cs':List AV) (us:Array Value),ps.length=vs.length→(∀(k:Nat) (p:Nat×AV) (v:Nat×Value),ps[k]? =some p→vs[k]? =some v→v.1=p.1∧AV.reps Z B w (cellsA p.2) v.2.cells.toList)→AV.reps Z B w cs us.toList→zgW pl cs ps=some cs'→
  ∃us',Instr.fill (pl.toArray[·]?) us vs=some us'∧AV.reps Z B w cs' us'.toList
 |[],vs,cs,cs',us,hl,_,hr,hf=>by
  have :vs=[]:=List.eq_nil_of_length_eq_zero hl.symm
  subst this
  simp only[zgW,Option.some.injEq]at hf
  subst hf
  exact⟨us,rfl,hr⟩
 |(i,a)::ps,[],cs,cs',us,hl,_,hr,hf=>by simp at hl
 |(i,a)::ps,(j,v)::vs,cs,cs',us,hl,hp,hr,hf=>by
  obtain⟨e,hv⟩:=hp 0 (i,a) (j,v) rfl rfl
  simp only at e hv
  subst e
  simp only[zgW]at hf
  cases hpl:pl[j]? with
  |none=>rw[hpl]at hf;cases hf
  |some os=>
   obtain⟨off,sz⟩:=os
   rw[hpl]at hf
   simp only at hf
   cases hc:(Nat.beq (cellsA a).length sz && Nat.ble (off+sz) cs.length)with
   |false=>rw[hc]at hf;cases hf
   |true=>
    rw[hc]at hf
    simp only[cond_true]at hf
    rw[Bool.and_eq_true,zbv]at hc
    have h1:=Nat.eq_of_beq_eq_true hc.1
    have h2:=AV.reps_len hv
    have h3:=AV.reps_len hr
    simp only[Array.length_toList]at h2 h3
    have hset:=zi5 off v.cells.toList us (by simp;omega)
    have hr2:AV.reps Z B w (setA cs off (cellsA a)) (((v.cells.toList.zipIdx 0).foldl (fun cs (x:Value×Nat)=>cs.setIfInBounds (off+x.2) x.1) us)).toList:=by
     rw[hset]
     unfold setA
     rw[show v.cells.toList.length=(cellsA a).length by simp;omega]
     exact zbd (zbd (zcS _ hr) hv) (zcR _ hr)
    obtain⟨us',h4,h5⟩:=zih pl ps vs _ cs' _ (by simpa using hl) (fun k p v hk hk'=>hp (k+1) p v (by simpa using hk) (by simpa using hk')) hr2 hf
    refine⟨us',?_,h5⟩
    have hpl':(pl.toArray[j]? :Option (Nat×Nat))=some (off,sz):=by simpa using hpl
    rw[Instr.fill]
    simp only[hpl']
    rw[if_neg (by simp;omega)]
    rw[←h4]
    congr 1
    rw[←Array.foldl_toList,Array.toList_zipIdx]
theorem zgX (pl:List (Nat×Nat)) (D:Nat→Prop):∀(ps:List (Nat×AV)) (cs cs':List AV),(∀i∈AV.idss cs,D i)→(∀p∈ps,∀i∈p.2.ids,D i)→zgW pl cs ps=some cs'→∀i∈AV.idss cs',D i
 |[],cs,cs',h1,_,hf=>by simp only[zgW,Option.some.injEq]at hf;subst hf;exact h1
 |(j,a)::ps,cs,cs',h1,h2,hf=>by
  simp only[zgW]at hf
  cases hpl:pl[j]? with
  |none=>rw[hpl]at hf;cases hf
  |some os=>
   rw[hpl]at hf
   simp only at hf
   cases hc:(Nat.beq (cellsA a).length os.2 && Nat.ble (os.1+os.2) cs.length)with
   |false=>rw[hc]at hf;cases hf
   |true=>
    rw[hc]at hf
    simp only[cond_true]at hf
    refine zgX pl D ps _ cs' (fun i hi=>?_) (fun p hp=>h2 p (by simp[hp])) hf
    rw[setA,zb8]at hi
    obtain⟨c,hc,hci⟩:=hi
    rw[List.mem_append,List.mem_append]at hc
    rcases hc with(hc|hc)|hc
    ·exact h1 i (za5 (List.mem_of_mem_take hc) hci)
    ·exact h2 (j,a) (by simp) i (zc4 i (za5 hc hci))
    ·exact h1 i (za5 (List.mem_of_mem_drop hc) hci)
theorem zep {P:Program} {E:List (Nat×AV)} {H:Nat→Option Blk} {d:Option Tmp} {ty:TypeId} {pos:String} {af:Array Edge} {g:Option (Nat×Bool)} {t:TypeId} {pl:List (Nat×Nat)} {zs:List Value} [hp:PlT P t pl] [hz:ZrT P t zs]
  {parts:Array (Nat×Operand)} {cs:List AV} (rd:List (Nat×Blk)) (hf:zgW pl (zs.map fun u=>.r (.v u)) (parts.toList.map fun p=>(p.1,evA (get E) p.2))=some cs) (ho:(parts.toList.all fun p=>zfn rd (evA (get E) p.2))=true) (hrd:∀i b,(i,b)∈rd→H i=some b):
  zav P ⟨d,.build t parts,ty,pos,af,g⟩ (get E) H rd (.ag cs):=by
 refine⟨hrd,fun i hi=>.inl ?_,fun a w Z M hr hh=>?_⟩
 ·rw[AV.ids]at hi
  refine zgX pl (fun i=>∃t,i∈(get E t).ids) _ _ _ (fun i hi=>by rw[zee]at hi;cases hi) (fun p hp i hi=>?_) hf i hi
  obtain⟨q,hq,rfl⟩:=List.mem_map.1 hp
  rcases zbZ rfl i hi with h|⟨_,_,h,_⟩
  ·exact h
  ·cases h
 ·have h1:=hz.ok
  have h2:=hp.ok
  unfold plTB at h2
  cases hu:P.underlying t with
  |none=>rw[hu]at h2;cases h2
  |some D=>
   rw[hu]at h2
   cases D with
   |struct fs=>
    have h2:=of_decide_eq_true h2
    cases hi:P.info? t with
    |none=>rw[hi]at h1;cases h1
    |some it=>
     rw[hi]at h1
     simp only[Option.map_some,Option.some.injEq]at h1
     cases hzz:it.zero with
     |none=>rw[hzz]at h1;cases h1
     |some z=>
      rw[hzz]at h1
      simp only[Option.map_some,Option.some.injEq]at h1
      obtain⟨us',h3,h4⟩:=zih (Z:=Z) (B:=M) (w:=w) pl _ (parts.toList.map fun p=>(p.1,a.eval p.2)) _ cs z.cells (by simp) (fun k p v hk hv=>by
       rw[List.getElem?_map]at hk hv
       cases hq:parts.toList[k]? with
       |none=>rw[hq]at hk;cases hk
       |some q=>
        rw[hq]at hk hv
        simp only[Option.map_some,Option.some.injEq]at hk hv
        subst hk hv
        have hmem:=List.mem_of_getElem? hq
        refine⟨rfl,zlT (List.all_eq_true.1 ho q hmem) hh (hr q.2 ?_)⟩
        show q.2∈((parts.toList.map (·.2)).toArray).toList
        simp only[List.toList_toArray]
        exact List.mem_map.2 ⟨q,hmem,rfl⟩) (by rw[h1];exact zez zs) hf
      have hb:P.built t (parts.map fun p=>(p.1,a.eval p.2)).toList=some us':=by
       unfold Program.built
       rw[hi,hu]
       simp only[hzz]
       rw[h2]
       simp only[Array.toList_map]
       exact h3
      refine⟨.agg us',?_,by rw[AV.rep];exact⟨us',rfl,h4⟩⟩
      have he:(parts.map fun(i,x)=>(i,a.eval x))=parts.map fun p=>(p.1,a.eval p.2):=rfl
      simp only[execOp,he,Sem.run_bind,run_build w t _ us' hb,Result.andThen_ok,Sem.run_pure]
   |_=>cases h2
section
variable {P:Program} {L:Ln} {N:Nat} {ops:Array Oper} {chk:List (Nat×Sp)→Bool} {Q:St→Prop} {l:List Oper} {E:List (Nat×AV)} {H:List (Nat×Option Blk)} {n:Nat} {tr:List (Nat×Sp)}
variable {d:Nat} {ty:TypeId} {pos:String} {af:Array Edge} {g:Option (Nat×Bool)} {t:TypeId} {x y:Operand}
end
/-! ## Strings -/
section
variable {P:Program} {env:Nat→AV} {H:Nat→Option Blk} {d:Option Tmp} {ty:TypeId} {pos:String} {af:Array Edge} {g:Option (Nat×Bool)}
variable {t u:TypeId} {x y:Operand}
theorem zga {B:Nat→Prop} {w:World}:∀(l:List UInt8) (us:List Value),RVs B w (bys l).flatten us→us=(l.map fun b=>(b.toNat:Int)).map (Value.int .u8)
 |[],us,h=>by cases h;rfl
 |b::l,us,h=>by
  rw[bys,List.map_cons,List.flatten_cons]at h
  cases h with
  |cons q1 q2 q3=>
   rw[RV.rep]at q2
   rw[List.map_cons,List.map_cons,q2,zga l _ q3]
end
section
variable {P:Program} {L:Ln} {N:Nat} {ops:Array Oper} {chk:List (Nat×Sp)→Bool} {Q:St→Prop} {l:List Oper} {E:List (Nat×AV)} {H:List (Nat×Option Blk)} {n:Nat} {tr:List (Nat×Sp)}
variable {d':Option Tmp} {env:Nat→AV} {HF:Nat→Option Blk}
variable {d:Nat} {ty:TypeId} {pos:String} {af:Array Edge} {g:Option (Nat×Bool)} {t u:TypeId} {x y:Operand}
theorem zjm {i o:Nat} (hx:evA env x= .pt i o):zav P ⟨d',.nilCheck x,ty,pos,af,g⟩ env HF [] (.pt i o):=by
 refine⟨fun i b h=>zaH h,fun i hi=>zbZ hx i (by simpa[AV.ids]using hi),fun a w Z M hr _=>?_⟩
 have h1:=hr x (by simp[Op.operands])
 rw[hx]at h1
 have h2:=h1
 rw[AV.rep]at h1
 obtain⟨b,_,h3⟩:=h1
 refine⟨a.eval x,?_,h2⟩
 simp only[execOp,h3,Sem.run_pure]
theorem zlP {e b:Nat} [hT:SlT P t e 1 b] {k:IntKind} {a:Int} {m:Nat} {bs:List UInt8} (hx:evA env x= .r (.sl 1 (bys bs))) (hy:evA env y= .r (.v (.int k a))) (ha:a=(m:Int)) (hm:m≤bs.length):
  zav P ⟨d',.slice t x none (some y) none,ty,pos,af,g⟩ env HF [] (.r (.sl 1 (bys (bs.take m)))):=by
 rw[zic];exact zmF hx hy ha (by rw[zas];exact hm)
theorem zlQ {e b:Nat} [hT:SlT P t e 1 b] {k:IntKind} {a:Int} {j:Nat} {bs:List UInt8} (hx:evA env x= .r (.sl 1 (bys bs))) (hy:evA env y= .r (.v (.int k a))) (ha:a=(j:Int)) (hj:j≤bs.length):
  zav P ⟨d',.slice t x (some y) none none,ty,pos,af,g⟩ env HF [] (.r (.sl 1 (bys (bs.drop j)))):=by
 rw[zib];exact zmG hx hy ha (by rw[zas];exact hj)
theorem zlO {e b:Nat} [hT:SlT P t e 1 b] {k k':IntKind} {a c:Int} {j m:Nat} {z:Operand} {bs:List UInt8} (hx:evA env x= .r (.sl 1 (bys bs))) (hy:evA env y= .r (.v (.int k a))) (hz:evA env z= .r (.v (.int k' c))) (ha:a=(j:Int)) (hc:c=(m:Int)) (hj:j≤m) (hm:m≤bs.length):
  zav P ⟨d',.slice t x (some y) (some z) none,ty,pos,af,g⟩ env HF [] (.r (.sl 1 (bys ((bs.drop j).take (m-j))))):=by
 rw[zic,zib];exact zmE hx hy hz ha hc hj (by rw[zas];exact hm)
def zn3 (P:Program) (f:FuncId) (ds:List AV) (T:TypeId) (cs:List RV):Prop:=
 ∀(w:World) (Z:Nat→Value) (M:Nat→Prop) (us:List Value),(∀x,M x→x<w.heap.size)→AV.reps Z M w ds us→
  Calls P f us.toArray w fun e w'=>∃p vs,e= .returned (.pointer (some ⟨p,0,none⟩))∧w.heap.size≤p∧w'.heap[p]? =some (.cells vs T (0,0))∧RVs (fun q=>M q∨w.heap.size≤q) w' cs vs.toList∧Below w.heap.size w w'
theorem zo4 {f:FuncId} {xs:Array Operand} {ats:Array TypeId} {ds:List AV} {T:TypeId} {cs:List RV} (hm:zn3 P f ds T cs) (hargs:CfL (getH H) (fun i=>i) [] (xs.toList.map (evA (get E))) ds) (hf:zdJ P f=true) (hds:AV.idss ds=[])
  (hd:Nat.blt d N=true) (hg:za3 ops (get E) ⟨some d,.call { callee:=.value (.func f),args:=xs,argTypes:=ats},ty,pos,af,g⟩ true)
  (h:wpA P L N ops chk Q l ⟨(d,.pt n 0)::E,(n,some (.var T (cs.map .r)))::H,n+1⟩ ((n,⟨true,[],.pt n 0,[],[.var T (cs.map .r)]⟩)::tr)):
  wpA P L N ops chk Q (⟨some d,.call { callee:=.value (.func f),args:=xs,argTypes:=ats},ty,pos,af,g⟩::l) ⟨E,H,n⟩ tr:=by
 have hid:∀cs:List RV,AV.idss (cs.map .r)=[]:=fun cs=>by induction cs with |nil=>rfl|cons c cs ih=>rw[List.map_cons,AV.idss,ih];rfl
 refine⟨⟨true,[],.pt n 0,[],[.var T (cs.map .r)]⟩,⟨fun x hx=>?_,hg,fun _ a w Z M hM hr hh hdist=>?_,(fun h=>by cases h),fun D hD hDH hfree=>?_⟩,h⟩
 ·injection hx with hx;subst hx;exact za2.1 hd
 ·have hr':∀x∈xs.toList,(evA (get E) x).rep Z M w (a.eval x):=fun x hx=>hr x (by show x∈(#[Operand.func f]++xs).toList;rw[Array.toList_append];exact List.mem_append_right _ hx)
  have hreps:AV.reps Z M w (xs.toList.map (evA (get E))) (xs.toList.map a.eval):=by
   revert hr'
   generalize xs.toList=ys
   intro hr'
   induction ys with
   |nil=>rw[List.map_nil,AV.reps];rfl
   |cons y ys ih=>rw[List.map_cons,List.map_cons,AV.reps];exact⟨_,_,rfl,hr' y (by simp),ih fun x hx=>hr' x (by simp[hx])⟩
  have hargs':=CfL.reps (Z:=Z) (Z':=Z) (B:=M) (B':=M) (w:=w) (fun _ _ h=>h) (fun j b hj hb=>by cases hj) hargs (fun _ _=>rfl) _ hreps
  have hc:=hm w Z M (xs.toList.map a.eval) hM hargs'
  refine zcm (zfc hf a w) ?_
  have he:(xs.toList.map a.eval).toArray=xs.map a.eval:=by rw[←Array.toList_map]
  rw[he]at hc
  refine hc.mono fun e w' ⟨p,vs,h1,h2,h3,h4,h5⟩=>⟨_,h1,fun i=>if i=n then .pointer (some ⟨p,0,none⟩)else Z i,fun i hi=>?_,?_,fun i b h=>zaH h,fun j c hj=>?_,fun j j' q hj hj' hne=>?_,fun j q hj hq=>.inl ?_,(Upto.of_below h5)⟩
  ·have :i≠n:=by simp at hi;omega
   simp[this]
  ·simp only[AV.rep]
   exact⟨p,by simp[blk],rfl⟩
  ·have hj0:j=0:=by
    cases j with
    |zero=>rfl
    |succ j=>simp at hj
   subst hj0
   have :c= .var T (cs.map .r):=by simpa using hj.symm
   subst this
   have hr2:∀(cs:List RV) (vs:List Value) (B:Nat→Prop),(∀q,q<w'.heap.size→B q→M q∨w.heap.size≤q)→RVs (fun q=>M q∨w.heap.size≤q) w' cs vs→AV.reps (fun i=>if i=n then .pointer (some ⟨p,0,none⟩)else Z i) B w' (cs.map .r) vs:=by
    intro cs vs B hB h
    have h':=RVs.mono (Upto.refl _) hB h
    clear h
    induction h' with
    |nil=>rw[List.map_nil,AV.reps]
    |cons h1 h2 _ ih=>rw[List.map_cons,AV.reps];exact⟨_,_,rfl,by rw[AV.rep];exact h2,ih⟩
   refine⟨p,vs,by simp,h3,hr2 cs _ _ (fun q _ hq=>?_) h4,?_⟩
   ·rcases hq with h0|⟨j,hj,hq⟩
    ·exact .inl h0
    ·have :j=0:=by simpa using hj
     subst this
     simp[blk]at hq
     exact .inr (by omega)
   ·have :=h4.one
    rw[Array.all_eq_true]
    intro i hi
    exact this _ (by simp)
  ·simp at hj hj';omega
  ·have :j=0:=by simpa using hj
   subst this
   simp[blk]at hq
   omega
 ·refine⟨fun i b h=>zaH h,fun i o h=>zaH h,fun i o h=>zaH h,fun i h=>zaH h,hfree,fun i hi=>.inr ?_,fun c hc i hi=>.inl ?_,fun i b h=>zaH h⟩
  ·have :i=n:=by simpa[AV.ids]using hi
   subst this;simp
  ·have :c= .var T (cs.map .r):=by simpa using hc
   subst this
   rw[Blk.ids,hid]at hi
   cases hi
end
theorem zct {K:St→Prop} {Q:Exit→St→Prop} {S:St} (h:Q .ret S):zmi K Q .ret S:=h
theorem zbS {i:Nat} {Q:Exit→St→Prop} {S:St} (h:Q .ret S):zgP i Q .ret S:=h
/-! ## A fresh slice that is only read from then on -/
theorem zeX {Z:Nat→Value} {B B':Nat→Prop} {w:World} {j T sz:Nat} {es:List (List RV)} (h:held Z B w j (.row T sz es)) (hB:∀q,q<w.heap.size→B' q→B q) (hn:∀x,blk (Z j)=some x→¬B' x):RV.rep B' w (.sl sz es) (Z j):=by
 obtain⟨us,h1,h2,h3⟩:=h
 exact zcG (n:=0) h1 h2 h3 hB hn
theorem zam.freeze {P:Program} {f:FuncId} {args:List AV} {T sz:Nat} {es:List (List RV)} (h:zam P f args [] (.fr T sz es) []):zam P f args [] (.r (.sl sz es)) []:=by
 intro w Z M k us hM hk hargs hpre hd
 refine(h w Z M k us hM hk hargs hpre hd).mono fun e w' ⟨v,he,Z',A⟩=>⟨v,he,Z,fun _ _=>rfl,?_,fun i b h=>by simp[zaq,zaM]at h,fun j b h=>by simp[zaq,AV.unfr]at h,fun j j' x h=>by simp[zaq,AV.unfr]at h,fun j x h=>by simp[zaq,AV.unfr]at h,A.upto⟩
 have h1:=A.out
 have h2:=A.fr 0 (.row T sz es) (by simp[zaq,AV.unfr])
 have h3:=A.fresh 0
 simp only[zaq,AV.unfr,AV.rep,Nat.add_zero]at h1 h2 h3 ⊢
 rw[h1]
 refine zeX h2 (fun q _ hq=>hq.imp (fun h=>h) (fun⟨j,hj,_⟩=>by simp at hj)) fun x hx hn=>?_
 have h4:=h3 x (by simp) hx
 rcases hn with h0|⟨j,hj,_⟩
 ·rcases h4 with h4|⟨i,hi,_⟩
  ·have :=hM x h0;omega
  ·simp[zaM]at hi
 ·simp at hj
theorem zam.freeze2 {P:Program} {f:FuncId} {args:List AV} {T sz:Nat} {es:List (List RV)} {y:Value} (h:zam P f args [] (.tu [.fr T sz es,.r (.v y)]) []):zam P f args [] (.tu [.r (.sl sz es),.r (.v y)]) []:=by
 intro w Z M k us hM hk hargs hpre hd
 refine(h w Z M k us hM hk hargs hpre hd).mono fun e w' ⟨v,he,Z',A⟩=>⟨v,he,Z,fun _ _=>rfl,?_,fun i b h=>by simp[zaq,zaM]at h,fun j b h=>by simp[zaq,AV.unfr,AV.unfrs]at h,fun j j' x h=>by simp[zaq,AV.unfr,AV.unfrs]at h,fun j x h=>by simp[zaq,AV.unfr,AV.unfrs]at h,A.upto⟩
 have h1:=A.out
 have h2:=A.fr 0 (.row T sz es) (by simp[zaq,AV.unfr,AV.unfrs])
 have h3:=A.fresh 0
 simp only[zaq,AV.unfr,AV.unfrs,AV.rep,AV.reps,Nat.add_zero]at h1 h2 h3 ⊢
 obtain⟨us',e1,u,us2,e2,h5,e3⟩:=h1
 refine⟨us',e1,u,us2,e2,?_,?_⟩
 ·rw[h5]
  refine zeX h2 (fun q _ hq=>hq.imp (fun h=>h) (fun⟨j,hj,_⟩=>by simp at hj)) fun x hx hn=>?_
  have h4:=h3 x (by simp) hx
  rcases hn with h0|⟨j,hj,_⟩
  ·rcases h4 with h4|⟨i,hi,_⟩
   ·have :=hM x h0;omega
   ·simp[zaM]at hi
  ·simp at hj
 ·obtain⟨u',us3,e4,h6,e5⟩:=e3
  refine⟨u',us3,e4,?_,e5⟩
  rw[RV.rep]at h6 ⊢;exact h6
/-! ## What bears no slice -/
theorem ziK {T:Nat} (l:List UInt8):(AV.fr T 1 (bys l)).vals:=by
 simp only[AV.vals,bys,List.mem_map]
 rintro e ⟨b,_,rfl⟩ c hc
 simp only[List.mem_singleton]at hc
 exact⟨_,hc⟩
theorem zmM (x:Value):(AV.r (.v x)).vals:=by simp only[AV.vals];exact⟨x,rfl⟩
theorem vals_nil:AV.valss []:=by simp only[AV.valss]
theorem zhs {c:AV} {cs:List AV} (h:c.vals) (h':AV.valss cs):AV.valss (c::cs):=by simp only[AV.valss];exact⟨h,h'⟩
theorem zk6 {cs:List AV} (h:AV.valss cs):(AV.tu cs).vals:=by simp only[AV.vals];exact h
section
variable {H:Nat→Option Blk} {ρ:Nat→Nat} {G:List Nat} {as ds cs cs':List AV} {env:Nat→AV} {x:Operand}
theorem zcK {c c':RV} (h:CfL H ρ G cs cs') (e:c=c'):CfL H ρ G (.r c::cs) (.r c'::cs'):=by subst e;exact .cons _ _ _ _ (.r _) h
theorem zbo {k:IntKind} {m p:Int} (h:CfL H ρ G cs cs') (e:m=p):CfL H ρ G (.r (.v (.int k m))::cs) (.r (.v (.int k p))::cs'):=zcK h (by rw[e])
theorem zgb (h:CfL H ρ G as ds) (hc:CfL H ρ G cs cs') (hx:evA env x= .ag cs):CfL H ρ G (evA env x::as) (.ag cs'::ds):=by rw[hx];exact .cons _ _ _ _ (.ag _ _ hc) h
end
theorem zl9 {post:List (Option Blk)} {P:Program} {L:Ln} {fn:Func} {S:St} {r s y:AV} {cs:List AV} {p u ty i n:Nat} {T:TypeId} {F F':List Nat} [hT:AgT P ty n] (G:List Nat) (hrt:Rt (getH S.H) L.n G (.ag cs) r F) (hrs:Rt (getH S.H) L.n G y s F') (hres:fn.results= #[.cell p ty,.tmp u]) (hp:get S.env p= .pt i 0) (hi:getH S.H i=some (.var T cs)) (hl:cs.length=n) (hy:get S.env u=y)
  (hpo:∀i b,(i,some b)∈zaM 0 post→getH S.H i=some b∧b.ids=[]) (hn:zbl L (F++(F'++[])) G=true):(Exit.ret= .normal∨Exit.ret= .ret)∧zeF P L fn S (.tu [r,s]) post:=by
 obtain⟨d,h1,h2⟩:=hT.und
 refine⟨.inr rfl,⟨⟨.tu [.ag cs,y],_,G,.two _ _ _ _ hres (.agg _ _ _ _ _ _ hp hi h1 h2 ?_) (.tmp _ _ hy),.tu _ _ _ (.cons _ _ _ _ _ _ hrt (.cons _ _ _ _ _ _ hrs .nil)),hn⟩,hpo⟩⟩
 rw[hT.size,hl]
section
variable {S:St} {ρ:Nat→Nat} {G:List Nat} {l:List (Nat×AV)} {t:Nat} {lh:List (Nat×Option Blk)}
theorem zi9 {j T sz:Nat} {es es':List (List RV)} (h:eLe S ρ G l) (e:es=es') (hg:j∈G) (hx:get S.env t= .ow j) (hj:getH S.H j=some (.row T sz es)):eLe S ρ G ((t,.r (.sl sz es'))::l):=by
 subst e;refine⟨?_,h⟩;rw[show S.envF t= .ow j from hx];exact .fz _ _ _ _ hj hg
theorem zdT {i:Nat} {T:TypeId} {cs cs':List AV} (h:hLe S ρ G lh) (hc:CfL S.HF ρ G cs cs') (hx:getH S.H (ρ i)=some (.var T cs)):hLe S ρ G ((i,some (.var T cs'))::lh):=⟨⟨_,hx,.var _ _ _ hc⟩,h⟩
end
/-! ## Structs of numbers, compared -/
def eqTB (P:Program) (t n:Nat):Bool:=
 (match P.underlying t with
  |some (.struct fs)=>Nat.beq fs.size n && (fs.toList.zipIdx.all fun p=> !(p.1.name == "_") && Nat.beq p.1.offset p.2 && (match P.underlying p.1.type with |some (.int _)=>true|_=>false))
  |_=>false) && !P.stoodInHeld t && !P.eqGuardType P.depth t
class EqT (P:Program) (t:Nat) (n:outParam Nat):Prop where ok:eqTB P t n=true
section
variable {P:Program} {env:Nat→AV} {H:Nat→Option Blk} {d:Option Tmp} {ty:TypeId} {pos:String} {af:Array Edge} {g:Option (Nat×Bool)}
variable {t u:TypeId} {x y:Operand}
end
end Go.Ab
