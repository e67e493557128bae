/- Texts of the second layer in one: Ab6 Ab7 Ab8 Ab9 Ab10 Ab11. -/
import Derived.Test.YthiioppfnmcclaaGreatG1
import Derived.IntWalk
import Derived.Laws.Small
import Derived.Laws.Unary
import Derived.Laws.Tables
import Derived.Deep.MidRow
import Derived.Maps.AppendAt
import Derived.Great.BuildSlice
set_option linter.unusedVariables false
set_option linter.unusedSimpArgs false
namespace Go.Ab
open Go.RowKit
mutual
inductive Rt (H:Nat→Option Blk) (L:Nat) (G:List Nat):AV→AV→List Nat→Prop
 |na (a):Rt H L G a .na []
 |r (c):Rt H L G (.r c) (.r c) []
 |rp (cs):Rt H L G (.rp cs) (.rp cs) []
 |fr (i T sz es):H i=some (.row T sz es)→Rt H L G (.ow i) (.fr T sz es) [i]
 |fz (j T sz es):H j=some (.row T sz es)→j∈G→Rt H L G (.ow j) (.r (.sl sz es)) []
 |pt (i o):i<L→Rt H L G (.pt i o) (.pt i o) []
 |ow (i):i<L→Rt H L G (.ow i) (.ow i) []
 |ag (cs ds F):RtL H L G cs ds F→Rt H L G (.ag cs) (.ag ds) F
 |tu (cs ds F):RtL H L G cs ds F→Rt H L G (.tu cs) (.tu ds) F
inductive RtL (H:Nat→Option Blk) (L:Nat) (G:List Nat):List AV→List AV→List Nat→Prop
 |nil:RtL H L G [] [] []
 |cons (a d as ds F F'):Rt H L G a d F→RtL H L G as ds F'→RtL H L G (a::as) (d::ds) (F++F')
end
section
variable {H:Nat→Option Blk} {L:Nat} {G:List Nat} {Z Z':Nat→Value} {B B':Nat→Prop} {w:World}
mutual
theorem Rt.nums:∀{a d:AV} {F:List Nat} (_:Rt H L G a d F) (k:Nat),(d.unfr k).2.length=F.length∧∀(j:Nat) (b:Blk),(d.unfr k).2[j]? =some b→∃i T sz es,F[j]? =some i∧H i=some b∧b= .row T sz es
 |_,_,_,.na a,k=>by simp[AV.unfr]
 |_,_,_,.r a,k=>by simp[AV.unfr]
 |_,_,_,.rp a,k=>by simp[AV.unfr]
 |_,_,_,.fr i T sz es h,k=>by
  simp only[AV.unfr]
  refine⟨rfl,fun j b hb=>?_⟩
  cases j with
  |zero=>simp at hb;subst hb;exact⟨i,T,sz,es,rfl,h,rfl⟩
  |succ j=>simp at hb
 |_,_,_,.fz j T sz es h hg,k=>by simp[AV.unfr]
 |_,_,_,.pt i o h,k=>by simp[AV.unfr]
 |_,_,_,.ow i h,k=>by simp[AV.unfr]
 |_,_,_,.ag cs ds F h,k=>by simp only[AV.unfr];exact RtL.nums h k
 |_,_,_,.tu cs ds F h,k=>by simp only[AV.unfr];exact RtL.nums h k
theorem RtL.nums:∀{as ds:List AV} {F:List Nat} (_:RtL H L G as ds F) (k:Nat),(AV.unfrs ds k).2.length=F.length∧∀(j:Nat) (b:Blk),(AV.unfrs ds k).2[j]? =some b→∃i T sz es,F[j]? =some i∧H i=some b∧b= .row T sz es
 |_,_,_,.nil,k=>by simp[AV.unfrs]
 |_,_,_,.cons a d as ds F F' h1 h2,k=>by
  simp only[AV.unfrs]
  obtain⟨e1,g1⟩:=Rt.nums h1 k
  obtain⟨e2,g2⟩:=RtL.nums h2 (k+(d.unfr k).2.length)
  refine⟨by rw[List.length_append,List.length_append,e1,←e1,e2,e1],fun j b hb=>?_⟩
  rcases Nat.lt_or_ge j (d.unfr k).2.length with hj|hj
  ·rw[List.getElem?_append_left hj]at hb
   obtain⟨i,T,sz,es,h3,h4⟩:=g1 j b hb
   exact⟨i,T,sz,es,by rw[List.getElem?_append_left (by omega)];exact h3,h4⟩
  ·rw[List.getElem?_append_right hj]at hb
   obtain⟨i,T,sz,es,h3,h4⟩:=g2 _ b hb
   exact⟨i,T,sz,es,by rw[List.getElem?_append_right (by omega),←e1];exact h3,h4⟩
end
mutual
theorem Rt.rep (hB:∀k,k<w.heap.size→B' k→B k) (hG:∀j b,j∈G→H j=some b→held Z B w j b∧∀x,blk (Z j)=some x→¬B' x) (hL:∀i,i<L→Z' i=Z i):
  ∀{a d:AV} {F:List Nat} (_:Rt H L G a d F) (k:Nat) (_:∀(j i:Nat),F[j]? =some i→Z' (k+j)=Z i) (u:Value),AV.rep Z B w a u→AV.rep Z' B' w (d.unfr k).1 u
 |_,_,_,.na a,k,_,u,h=>by simp only[AV.unfr,AV.rep]
 |_,_,_,.r c,k,_,u,h=>by simp only[AV.unfr];exact AV.rep_mono (Upto.refl _) hB _ (fun i hi=>by simp[AV.ids]at hi) _ h
 |_,_,_,.rp c,k,_,u,h=>by simp only[AV.unfr];exact AV.rep_mono (Upto.refl _) hB _ (fun i hi=>by simp[AV.ids]at hi) _ h
 |_,_,_,.fr i T sz es hi,k,hz,u,h=>by simp only[AV.unfr,AV.rep]at h ⊢;rw[h];exact(hz 0 i rfl).symm
 |_,_,_,.fz j T sz es hj hg,k,_,u,h=>by
  simp only[AV.unfr,AV.rep]at h ⊢
  subst h
  obtain⟨⟨us,h1,h2,h3⟩,h4⟩:=hG j _ hg hj
  exact zcG (n:=0) h1 h2 h3 hB h4
 |_,_,_,.pt i o hi,k,_,u,h=>by simp only[AV.unfr,AV.rep]at h ⊢;rw[hL i hi];exact h
 |_,_,_,.ow i hi,k,_,u,h=>by simp only[AV.unfr,AV.rep]at h ⊢;rw[hL i hi];exact h
 |_,_,_,.ag cs ds F hc,k,hz,u,h=>by
  simp only[AV.unfr,AV.rep]at h ⊢
  obtain⟨us,e,h⟩:=h
  exact⟨us,e,RtL.reps hB hG hL hc k hz _ h⟩
 |_,_,_,.tu cs ds F hc,k,hz,u,h=>by
  simp only[AV.unfr,AV.rep]at h ⊢
  obtain⟨us,e,h⟩:=h
  exact⟨us,e,RtL.reps hB hG hL hc k hz _ h⟩
theorem RtL.reps (hB:∀k,k<w.heap.size→B' k→B k) (hG:∀j b,j∈G→H j=some b→held Z B w j b∧∀x,blk (Z j)=some x→¬B' x) (hL:∀i,i<L→Z' i=Z i):
  ∀{as ds:List AV} {F:List Nat} (_:RtL H L G as ds F) (k:Nat) (_:∀(j i:Nat),F[j]? =some i→Z' (k+j)=Z i) (us:List Value),AV.reps Z B w as us→AV.reps Z' B' w (AV.unfrs ds k).1 us
 |_,_,_,.nil,k,_,us,h=>by simp only[AV.unfrs,AV.reps]at h ⊢;exact h
 |_,_,_,.cons a d as ds F F' h1 h2,k,hz,us,h=>by
  simp only[AV.unfrs,AV.reps]at h ⊢
  obtain⟨u,us',e,h3,h4⟩:=h
  have e1:=(Rt.nums h1 k).1
  refine⟨u,us',e,Rt.rep hB hG hL h1 k (fun j i hj=>hz j i ?_) u h3,RtL.reps hB hG hL h2 _ (fun j i hj=>?_) us' h4⟩
  ·have :j<F.length:=by
    rcases Nat.lt_or_ge j F.length with h'|h'
    ·exact h'
    ·rw[List.getElem?_eq_none h']at hj;cases hj
   rw[List.getElem?_append_left this];exact hj
  ·rw[e1,Nat.add_assoc]
   refine hz (F.length+j) i ?_
   rw[List.getElem?_append_right (by omega)]
   simpa using hj
end
end
theorem zdp:∀{k:Nat} {l:List Blk} {i:Nat} {b:Blk},(i,b)∈numd k l↔k≤i∧l[i-k]? =some b
 |k,[],i,b=>by simp[numd]
 |k,c::l,i,b=>by
  rw[numd,List.mem_cons,zdp (k:=k+1) (l:=l)]
  constructor
  ·rintro(e|⟨h1,h2⟩)
   ·injection e with e1 e2;subst e1 e2;exact⟨Nat.le_refl _,by simp⟩
   ·exact⟨by omega,by rw[show i-k=(i-(k+1))+1 by omega,List.getElem?_cons_succ];exact h2⟩
  ·rintro⟨h1,h2⟩
   rcases Nat.lt_or_ge k i with h|h
   ·exact .inr ⟨by omega,by rw[show i-k=(i-(k+1))+1 by omega,List.getElem?_cons_succ]at h2;exact h2⟩
   ·have :i=k:=by omega
    subst this
    simp at h2
    subst h2
    exact .inl rfl
theorem zkh {l:List (Nat×Blk)} {i:Nat} {o:Option Blk}:(i,o)∈zlL l↔∃b,o=some b∧(i,b)∈l:=by
 unfold zlL
 rw[List.mem_map]
 constructor
 ·rintro⟨⟨j,b⟩,h,e⟩
  injection e with e1 e2
  subst e1 e2
  exact⟨b,rfl,h⟩
 ·rintro⟨b,rfl,h⟩
  exact⟨_,h,rfl⟩
/-! ## Results -/
def zbB (tmps:Array Value):ResultVar→Sem Value
 |.tmp t=>pure (tmps.getD t undef)
 |.cell a t=>do loadVar t (←asAddr (tmps.getD a undef))
theorem zeI {α β γ:Type} (r:Result α) (f:α→World→Result β) (g:β→World→Result γ):(r.andThen f).andThen g=r.andThen fun a w=>(f a w).andThen g:=by cases r<;>rfl
theorem zli {α:Type} (r:Result α):(r.andThen fun a w=>.ok a w)=r:=by cases r<;>rfl
theorem zh3 {P:Program} {fn:Func} {r:ResultVar} {tmps:Array Value} {w:World} {v:Value} (h:fn.results= #[r]) (h1:(zbB tmps r).run P w= .ok v w):(results fn tmps).run P w= .ok v w:=by
 have :(results fn tmps).run P w=((zbB tmps r).run P w).andThen fun v w=>.ok v w:=by
  cases r<;>simp[results,h,zbB,zeI,zli]
 rw[this,h1];rfl
theorem zh4 {P:Program} {fn:Func} {r s:ResultVar} {tmps:Array Value} {w:World} {v u:Value} (h:fn.results= #[r,s]) (h1:(zbB tmps r).run P w= .ok v w) (h2:(zbB tmps s).run P w= .ok u w):(results fn tmps).run P w= .ok (.tuple #[v,u]) w:=by
 have :(results fn tmps).run P w=((zbB tmps r).run P w).andThen fun v w=>((zbB tmps s).run P w).andThen fun u w=>.ok (.tuple #[v,u]) w:=by
  cases r<;>cases s<;>simp[results,h,zbB,zeI,zli]
 rw[this,h1];simp only[Result.andThen_ok,h2]
theorem zgy {P:Program} {fn:Func} {r s t:ResultVar} {tmps:Array Value} {w:World} {v u x:Value} (h:fn.results= #[r,s,t]) (h1:(zbB tmps r).run P w= .ok v w) (h2:(zbB tmps s).run P w= .ok u w) (h3:(zbB tmps t).run P w= .ok x w):(results fn tmps).run P w= .ok (.tuple #[v,u,x]) w:=by
 have :(results fn tmps).run P w=((zbB tmps r).run P w).andThen fun v w=>((zbB tmps s).run P w).andThen fun u w=>((zbB tmps t).run P w).andThen fun x w=>.ok (.tuple #[v,u,x]) w:=by
  cases r<;>cases s<;>cases t<;>simp[results,h,zbB,zeI,zli]
 rw[this,h1];simp only[Result.andThen_ok,h2,h3]
def zb9:TypeDesc→Bool
 |.struct _|.array _ _=>true
 |_=>false
inductive ResV (P:Program) (S:St):ResultVar→AV→Prop
 |tmp (t) (x):S.envF t=x→ResV P S (.tmp t) x
 |agg (p ty i T cs d):S.envF p= .pt i 0→S.HF i=some (.var T cs)→P.underlying ty=some d→zb9 d=true→(P.info? ty).map (·.size)=some cs.length→ResV P S (.cell p ty) (.ag cs)
 |one (p ty i T c d):S.envF p= .pt i 0→S.HF i=some (.var T [c])→P.underlying ty=some d→zb9 d=false→ResV P S (.cell p ty) c
theorem zbs {P:Program} (w:World) (a:Addr) (ty:TypeId) (d:TypeDesc) (u:Value) (hu:P.underlying ty=some d) (hd:zb9 d=false) (hc:w.cell? a=some u):(loadVar ty a).run P w= .ok u w:=by
 have :(isAgg ty).run P w= .ok false w:=by
  simp only[isAgg,Sem.run_bind,run_underlying hu,Result.andThen_ok]
  cases d<;>first|rfl|(simp[zb9]at hd)
 simp only[loadVar,Sem.run_bind,this,Result.andThen_ok]
 simp[hc]
theorem zkB {Z:Nat→Value} {B:Nat→Prop} {w:World} {cs:List AV} {us:Array Value} (h:AV.reps Z B w cs us.toList):cs.length=us.size:=by simpa using AV.reps_len h
theorem ResV.run {P:Program} {S:St} {C:Cx} {D:Nat→Prop} {Z:Nat→Value} {a:Act} {w:World} (hs:SimF C D S.envF S.HF Z a w) {r:ResultVar} {x:AV} (h:ResV P S r x):∃v,(zbB a.tmps r).run P w= .ok v w∧x.rep Z (Own C S.HF Z) w v:=by
 cases h with
 |tmp t x h1=>subst h1;exact⟨_,rfl,hs.slots t⟩
 |agg p ty i T cs d h1 h2 h3 h4 h5=>
  have h6:=hs.slots p
  rw[h1,AV.rep]at h6
  obtain⟨b,e1,e2⟩:=h6
  obtain⟨b',us,e3,hg,hr,_⟩:=(hs.holds i _ h2).1
  rw[e3]at e1
  simp only[blk,Option.some.injEq]at e1
  obtain rfl:b=b':=e1.symm
  refine⟨.agg us,?_,?_⟩
  ·have e2':a.tmps[p]?.getD undef= .pointer (some ⟨b,0,none⟩):=by simpa using e2
   simp only[zbB,Sem.run_bind]
   have :(asAddr (a.tmps.getD p undef)).run P w= .ok ⟨b,0,none⟩ w:=by rw[e2];rfl
   rw[this]
   simp only[Result.andThen_ok]
   exact run_loadVar_row w b T ty us (0,0) d hg h3 (by cases d<;>first|rfl|(simp[zb9]at h4)) (by rw[h5,zkB hr])
  ·rw[AV.rep];exact⟨us,rfl,hr⟩
 |one p ty i T c d h1 h2 h3 h4=>
  have h6:=hs.slots p
  rw[h1,AV.rep]at h6
  obtain⟨b,e1,e2⟩:=h6
  obtain⟨b',us,e3,hg,hr,_⟩:=(hs.holds i _ h2).1
  rw[e3]at e1
  simp only[blk,Option.some.injEq]at e1
  obtain rfl:b=b':=e1.symm
  rw[AV.reps]at hr
  obtain⟨u,us',e4,h7,h8⟩:=hr
  refine⟨u,?_,h7⟩
  simp only[zbB,Sem.run_bind]
  have :(asAddr (a.tmps.getD p undef)).run P w= .ok ⟨b,0,none⟩ w:=by rw[e2];rfl
  rw[this]
  simp only[Result.andThen_ok]
  refine zbs w _ ty d u h3 h4 ?_
  rw[cell_of_row w b 0 us T (0,0) hg]
  have :us[0]? =us.toList[0]? :=by simp
  rw[this,e4];rfl
inductive ResA (P:Program) (S:St) (fn:Func):AV→Prop
 |one (r x):fn.results= #[r]→ResV P S r x→ResA P S fn x
 |two (r s x y):fn.results= #[r,s]→ResV P S r x→ResV P S s y→ResA P S fn (.tu [x,y])
 |three (r s t x y z):fn.results= #[r,s,t]→ResV P S r x→ResV P S s y→ResV P S t z→ResA P S fn (.tu [x,y,z])
theorem ResA.run {P:Program} {S:St} {C:Cx} {D:Nat→Prop} {Z:Nat→Value} {a:Act} {w:World} (hs:SimF C D S.envF S.HF Z a w) {fn:Func} {x:AV} (h:ResA P S fn x):∃v,(results fn a.tmps).run P w= .ok v w∧x.rep Z (Own C S.HF Z) w v:=by
 cases h with
 |one r x h1 h2=>
  obtain⟨v,h3,h4⟩:=h2.run hs
  exact⟨v,zh3 h1 h3,h4⟩
 |two r s x y h1 h2 h3=>
  obtain⟨v,h4,h5⟩:=h2.run hs
  obtain⟨u,h6,h7⟩:=h3.run hs
  refine⟨_,zh4 h1 h4 h6,?_⟩
  simp only[AV.rep,AV.reps]
  exact⟨_,rfl,v,_,rfl,h5,u,_,rfl,h7,rfl⟩
 |three r s t x y z h1 h2 h3 h4=>
  obtain⟨v,h5,h6⟩:=h2.run hs
  obtain⟨u,h7,h8⟩:=h3.run hs
  obtain⟨q,h9,h10⟩:=h4.run hs
  refine⟨_,zgy h1 h5 h7 h9,?_⟩
  simp only[AV.rep,AV.reps]
  exact⟨_,rfl,v,_,rfl,h6,u,_,rfl,h8,q,_,rfl,h10,rfl⟩
def zbl (L:Ln) (F G:List Nat):Bool:=(F.all fun i=>Nat.ble L.n i) && (G.all fun i=>Nat.beq L.m 0 && Nat.ble L.n i && F.all fun j=> !Nat.beq i j) && decide F.Nodup
structure zeF (P:Program) (L:Ln) (fn:Func) (S:St) (r:AV) (post:List (Option Blk)):Prop where
 ex:∃x F G,ResA P S fn x∧Rt S.HF L.n G x r F∧zbl L F G=true
 post:∀i b,(i,some b)∈zaM 0 post→S.HF i=some b∧b.ids=[]
theorem zaK:∀{k:Nat} {l:List (Option Blk)} {i:Nat} {b:Option Blk},(i,b)∈zaM k l↔k≤i∧l[i-k]? =some b
 |k,[],i,b=>by simp[zaM]
 |k,c::l,i,b=>by
  rw[zaM,List.mem_cons,zaK (k:=k+1) (l:=l)]
  constructor
  ·rintro(e|⟨h1,h2⟩)
   ·injection e with e1 e2;subst e1 e2;exact⟨Nat.le_refl _,by simp⟩
   ·exact⟨by omega,by rw[show i-k=(i-(k+1))+1 by omega,List.getElem?_cons_succ];exact h2⟩
  ·rintro⟨h1,h2⟩
   rcases Nat.lt_or_ge k i with h|h
   ·exact .inr ⟨by omega,by rw[show i-k=(i-(k+1))+1 by omega,List.getElem?_cons_succ]at h2;exact h2⟩
   ·have :i=k:=by omega
    subst this
    simp at h2
    subst h2
    exact .inl rfl
theorem zeo:∀(l:List (Option Blk)) (i:Nat),i<moved l→l[i]? =some none
 |[],i,h=>by simp[moved]at h
 |some b::l,i,h=>by simp[moved]at h
 |none::l,0,h=>rfl
 |none::l,i+1,h=>by
  rw[moved]at h
  rw[List.getElem?_cons_succ]
  exact zeo l i (by omega)
theorem zhh {P:Program} {fn:Func} {S:St} {r:AV} {pre:List Blk} {post:List (Option Blk)} {C:Cx} {a:Act} {w:World} {k:Nat} (hs:Sim C S a w) (hpl:post.length=C.nl) (hmv:C.ln.m=moved post) (hk:C.nl≤k) (hr:zeF P C.ln fn S r post):
  ∃v,(results fn a.tmps).run P w= .ok v w∧After k (zaq k pre r post) C.Z0 C.M0 C.w0 v w:=by
 obtain⟨Z,hs⟩:=hs
 obtain⟨⟨x,F,G,hx,hrt,hn⟩,hpost⟩:=hr
 obtain⟨v,hv,hrep⟩:=hx.run hs
 unfold zbl at hn
 simp only[Bool.and_eq_true,List.all_eq_true,zbv,decide_eq_true_eq]at hn
 obtain⟨⟨n1,n2⟩,n3⟩:=hn
 obtain⟨hl,hb⟩:=hrt.nums k
 refine⟨v,hv,fun i=>if k≤i∧i<k+F.length then Z (F.getD (i-k) 0)else C.Z0 i,?_⟩
 generalize hZ:(fun i=>if k≤i∧i<k+F.length then Z (F.getD (i-k) 0)else C.Z0 i)=Z'
 have hZ1:∀(j i:Nat),F[j]? =some i→Z' (k+j)=Z i:=by
  intro j i hj
  have hjl:j<F.length:=by
   rcases Nat.lt_or_ge j F.length with h'|h'
   ·exact h'
   ·rw[List.getElem?_eq_none h']at hj;cases hj
  rw[←hZ]
  simp only
  rw[if_pos (by omega),show k+j-k=j by omega,List.getD_eq_getElem?_getD,hj]
  rfl
 have hZ2:∀i,i<C.nl→Z' i=Z i:=by
  intro i hi
  rw[←hZ]
  simp only
  rw[if_neg (by omega),(hs.zl i hi).1]
 have hfr:∀j,j<F.length→∃i b,F[j]? =some i∧S.HF i=some b∧i∈F:=by
  intro j hj
  have h1:(r.unfr k).2[j]? =some ((r.unfr k).2[j]'(by omega)):=List.getElem?_eq_getElem _
  obtain⟨i,T,sz,es,h2,h3,_⟩:=hb j _ h1
  exact⟨i,_,h2,h3,List.mem_of_getElem? h2⟩
 have hlen:(zaq k pre r post).frs.length=F.length:=hl
 have hB:∀q,q<w.heap.size→New k (zaq k pre r post) Z' C.M0 q→Own C S.HF Z q:=by
  rintro q _ (h0|⟨j,hj,hjq⟩)
  ·exact .inl h0
  ·obtain⟨i,b,h1,h2,_⟩:=hfr j (by omega)
   rw[hZ1 j i h1]at hjq
   exact .inr ⟨i,b,h2,hjq⟩
 have hG:∀j b,j∈G→S.HF j=some b→held Z (Own C S.HF Z) w j b∧∀x,blk (Z j)=some x→¬New k (zaq k pre r post) Z' C.M0 x:=by
  intro j b hj hjb
  refine⟨(hs.holds j b hjb).1,fun x hx=>?_⟩
  obtain⟨⟨g0,g1⟩,g2⟩:=n2 j hj
  have g0:=Nat.eq_of_beq_eq_true g0
  rintro(h0|⟨q,hq,hqx⟩)
  ·have :=hs.m0 x h0
   rcases hs.fresh j b x hjb hx with h3|h3|⟨q,h3,_⟩
   ·unfold Cx.nl at h3;omega
   ·omega
   ·omega
  ·obtain⟨i,c,h1,h2,h3⟩:=hfr q (by omega)
   rw[hZ1 q i h1]at hqx
   have hne:j≠i:=fun e=>by have :=g2 i h3;simp[e]at this
   exact hs.dist j i b c hjb h2 hne x hx hqx
 refine⟨fun i hi=>?_,hrt.rep hB hG hZ2 k hZ1 v hrep,fun i b hib=>?_,fun j b hjb=>?_,fun j j' q hj hj' hne h1 h2=>?_,fun j q hj hq=>?_,?_⟩
 ·rw[←hZ]
  simp only
  rw[if_neg (by omega)]
 ·have hm:(i,some b)∈zaM 0 post:=hib
  obtain⟨h1,h2⟩:=hpost i b hm
  have hi:i<C.nl:=by
   have h3:=(zaK.1 hm).2
   have :i-0<post.length:=by
    rcases Nat.lt_or_ge (i-0) post.length with h'|h'
    ·exact h'
    ·rw[List.getElem?_eq_none h']at h3;cases h3
   omega
  exact((hs.holds i b h1).1).keep (Upto.refl _) hB (hZ2 i hi) (fun q hq=>by rw[h2]at hq;cases hq) (fun _ _=>rfl)
 ·obtain⟨i,T,sz,es,h1,h2,h3⟩:=hb j b hjb
  subst h3
  obtain⟨us,g1,g2,g3⟩:=(hs.holds i _ h2).1
  exact⟨us,by rw[hZ1 j i h1];exact g1,g2.mono (Upto.refl _) hB,g3⟩
 ·obtain⟨i,b,h3,h4,_⟩:=hfr j (by omega)
  obtain⟨i',b',h5,h6,_⟩:=hfr j' (by omega)
  rw[hZ1 j i h3]at h1
  rw[hZ1 j' i' h5]at h2
  refine hs.dist i i' b b' h4 h6 (fun e=>hne ?_) q h1 h2
  subst e
  have hj1:j<F.length:=by omega
  have hj2:j'<F.length:=by omega
  rw[List.getElem?_eq_getElem hj1]at h3
  rw[List.getElem?_eq_getElem hj2]at h5
  injection h3 with h3
  injection h5 with h5
  have hp:=List.pairwise_iff_getElem.1 n3
  rcases Nat.lt_trichotomy j j' with h|h|h
  ·exact absurd (h3.trans h5.symm) (hp j j' hj1 hj2 h)
  ·exact h
  ·exact absurd (h5.trans h3.symm) (hp j' j hj2 hj1 h)
 ·obtain⟨i,b,h3,h4,h5⟩:=hfr j (by omega)
  rw[hZ1 j i h3]at hq
  have :=n1 i h5
  rcases hs.fresh i b q h4 hq with h6|h6|⟨p,h6,h7⟩
  ·unfold Cx.nl at h6;omega
  ·exact .inl h6
  ·exact .inr ⟨p,zaK.2 ⟨Nat.zero_le _,by rw[Nat.sub_zero];exact zeo post p (by omega)⟩,h7⟩
 ·refine hs.frame.mono fun q _=>?_
  rintro⟨i,hi,hiq⟩
  have :i<post.length:=by omega
  refine⟨i,post[i],zaK.2 ⟨Nat.zero_le _,?_⟩,hiq⟩
  simp[this]
def numE:Nat→List AV→List (Nat×AV)
 |_,[]=>[]
 |k,x::xs=>(k,x)::numE (k+1) xs
theorem zcx:∀(k:Nat) (xs:List AV) (t:Nat),get (numE k xs) t=if k≤t then xs.getD (t-k) .na else .na
 |k,[],t=>by simp[numE,get]
 |k,x::xs,t=>by
  rw[numE,get,zcx (k+1) xs t]
  by_cases h:k=t
  ·subst h;simp
  ·have h1:Nat.beq k t=false:=by cases hb:Nat.beq k t with
    |false=>rfl
    |true=>exact absurd (Nat.eq_of_beq_eq_true hb) h
   rw[h1]
   simp only[cond_false]
   by_cases h2:k+1≤t
   ·rw[if_pos h2,if_pos (by omega),show t-k=(t-(k+1))+1 by omega,List.getD_cons_succ]
   ·rw[if_neg h2,if_neg (by omega)]
theorem zfN:∀(k:Nat) (l:List Blk) (i:Nat) (b:Blk),getH (zlL (numd k l)) i=some b→(i,b)∈numd k l:=by
 intro k l i b h
 obtain⟨b',e,hm⟩:=zkh.1 (zba h)
 injection e with e
 subst e
 exact hm
def ze4 (args:List AV) (pre:List Blk):Bool:=((AV.idss args).all fun i=>Nat.blt i pre.length) && pre.all fun b=>b.ids.all fun i=>Nat.blt i pre.length
theorem za5:∀{xs:List AV} {x:AV} {i:Nat},x∈xs→i∈x.ids→i∈AV.idss xs
 |y::ys,x,i,h,hi=>by
  rw[AV.idss]
  rcases List.mem_cons.1 h with e|e
  ·subst e;exact List.mem_append_left _ hi
  ·exact List.mem_append_right _ (za5 e hi)
def St0 (args:List AV) (pre:List Blk):St:=⟨numE 0 args,zlL (numd 0 pre),pre.length⟩
theorem zaA {P:Program} {f:FuncId} {fn:Func} {c:Code} {args:List AV} {pre:List Blk} {post:List (Option Blk)} {r:AV} (hf:P.funcs[f]? =some fn) (hb:fn.body=some c) (hn:args.length≤fn.ntmps) (hok:ze4 args pre=true) (hpl:post.length=pre.length)
  (h:awp P ⟨pre.length,moved post⟩ fn.ntmps c (fun e S=>(e= .normal∨e= .ret)∧zeF P ⟨pre.length,moved post⟩ fn S r post) (St0 args pre)):zam P f args pre r post:=by
 intro w Z M k us hM hk hargs hpre hdist
 unfold ze4 at hok
 simp only[Bool.and_eq_true,List.all_eq_true,za2]at hok
 obtain⟨o1,o2⟩:=hok
 have hlen:=AV.reps_len hargs
 let C:Cx:=⟨P,w,M,Z,⟨pre.length,moved post⟩,fn.ntmps,[]⟩
 have hmv:moved post≤pre.length:=by
  have :∀l:List (Option Blk),moved l≤l.length:=by
   intro l
   induction l with
   |nil=>exact Nat.le_refl _
   |cons x l ih=>cases x<;>simp[moved];omega
  have :=this post
  omega
 have hH:∀i b,(St0 args pre).HF i=some b→(i,b)∈numd 0 pre:=fun i b h=>zfN 0 pre i b h
 have hlt:∀i b,(i,b)∈numd 0 pre→i<pre.length∧b∈pre:=by
  intro i b h
  have h1:=(zdp.1 h).2
  rw[Nat.sub_zero]at h1
  refine⟨?_,List.mem_of_getElem? h1⟩
  rcases Nat.lt_or_ge i pre.length with h'|h'
  ·exact h'
  ·rw[List.getElem?_eq_none h']at h1;cases h1
 have hB:∀q,q<w.heap.size→Own C (St0 args pre).HF Z q→M q:=by
  rintro q _ (h0|⟨i,b,h1,h2⟩)
  ·exact h0
  ·exact(hpre i b (hH i b h1)).2 q h2
 have S:Sim C (St0 args pre) { tmps:=us.toArray++Array.replicate (fn.ntmps-us.toArray.size) undef,defers:=[]} w:=by
  refine⟨Z,by simp[C];omega,rfl,Upto.refl _,hM,fun t=>?_,fun t i hi=>?_,fun i b hb=>?_,fun i j b c hi hj hij=>?_,fun i b x hi hx=>.inl (hlt i b (hH i b hi)).1,hmv,fun i hi=>⟨rfl,hi⟩⟩
  ·show(get (numE 0 args) t).rep _ _ _ _
   rw[zcx,if_pos (Nat.zero_le _),Nat.sub_zero,List.getD_eq_getElem?_getD]
   cases ht:args[t]? with
   |none=>simp only[Option.getD_none,AV.rep]
   |some x=>
    obtain⟨u,hu,hr⟩:=AV.reps_get hargs ht
    simp only[Option.getD_some]
    refine AV.rep_mono (Upto.refl _) hB x (fun _ _=>rfl) _ ?_
    have htl:t<us.length:=by
     rcases Nat.lt_or_ge t us.length with h'|h'
     ·exact h'
     ·rw[List.getElem?_eq_none h']at hu;cases hu
    have :(us.toArray++Array.replicate (fn.ntmps-us.toArray.size) undef).getD t undef=u:=by
     rw[Array.getD_eq_getD_getElem?,Array.getElem?_append_left (by simpa using htl)]
     simp[hu]
    rw[this];exact hr
  ·have hi':i∈(get (numE 0 args) t).ids:=hi
   rw[zcx,if_pos (Nat.zero_le _),Nat.sub_zero,List.getD_eq_getElem?_getD]at hi'
   cases ht:args[t]? with
   |none=>rw[ht]at hi';simp[AV.ids]at hi'
   |some x=>rw[ht]at hi';exact o1 i (za5 (List.mem_of_getElem? ht) hi')
  ·have h1:=hH i b hb
   obtain⟨h2,h3⟩:=hlt i b h1
   exact⟨(hpre i b h1).1.anti hB,h2,fun j hj=>o2 b h3 j hj⟩
  ·exact hdist i j b c (hH i b hi) (hH j c hj) hij
 refine calls_of_wp hf hb (Code.wp_mono (fun e a' w' ⟨S',⟨he,hr⟩,hS'⟩=>?_) (h C rfl rfl rfl _ _ S))
 obtain⟨v,hv,hA⟩:=zhh (pre:=pre) (k:=k) hS' hpl rfl hk hr
 have hdf:a'.defers=[]:=by obtain⟨Z,h⟩:=hS';exact h.defers
 rcases he with rfl|rfl
 ·exact⟨hdf,v,hv,v,rfl,hA⟩
 ·exact⟨hdf,v,hv,v,rfl,hA⟩
class ItT (P:Program) (t:Nat) (k:outParam IntKind):Prop where ok:P.underlying t=some (.int k)
structure zav (P:Program) (o:Oper) (env:Nat→AV) (H:Nat→Option Blk) (rd:List (Nat×Blk)) (out:AV):Prop where
 rdH:∀i b,(i,b)∈rd→H i=some b
 ids:∀i∈out.ids,(∃t,i∈(env t).ids)∨∃j b,(j,b)∈rd∧(i=j∨i∈b.ids)
 run:∀(a:Act) (w:World) (Z:Nat→Value) (M:Nat→Prop),(∀x∈o.op.operands.toList,(evA env x).rep Z M w (a.eval x))→(∀i b,(i,b)∈rd→held Z M w i b)→∃v,(execOp a.eval o).run P w= .ok (.value v) w∧out.rep Z M w v
theorem zc2 {P:Program} {o:Oper} {a:Act} {w w':World} {v:Value} {R:Value→World→Prop} (h:(execOp a.eval o).run P w= .ok (.value v) w') (hR:R v w'):Exec P o a w R:=by
 unfold Exec;rw[h];exact hR
theorem zfd {P:Program} {o:Oper} {a:Act} {w w':World} {R:Value→World→Prop} (h:(execOp a.eval o).run P w= .ok .skip w') (hR:R undef w'):Exec P o a w R:=by
 unfold Exec;rw[h];exact hR
theorem zcm {P:Program} {o:Oper} {a:Act} {w:World} {f:FuncId} {args:Array Value} {R:Value→World→Prop} (h:(execOp a.eval o).run P w= .ok (.enter f args) w) (hR:Calls P f args w fun e w''=>∃v,e= .returned v∧R v w''):Exec P o a w R:=by
 unfold Exec;rw[h];exact hR
theorem zfj {k:Nat} {sp:Sp} {Z:Nat→Value} {M:Nat→Prop} (h:sp.frs=[]) {x:Nat}:New k sp Z M x→M x:=by
 rintro(h0|⟨j,hj,_⟩)
 ·exact h0
 ·rw[h]at hj;simp at hj
section
variable {P:Program} {L:Ln} {N:Nat} {ops:Array Oper} {chk:List (Nat×Sp)→Bool} {Q:St→Prop} {l:List Oper} {E:List (Nat×AV)} {H:List (Nat×Option Blk)} {n:Nat} {tr:List (Nat×Sp)}
theorem zkU {o:Oper} {rd:List (Nat×Blk)} {out:AV} (hd:(match o.dst with |some d=>Nat.blt d N|none=>true)=true) (hg:za3 ops (get E) o true) (hp:zav P o (get E) (getH H) rd out):
  StepA P L N ops o (get E) (getH H) n ⟨true,rd,out,[],[]⟩:=by
 refine⟨fun x hx=>?_,hg,fun _ a w Z M hM hx hr hdist=>?_,(fun h=>by cases h),fun D hD hDH hf=>?_⟩
 ·rw[hx]at hd;exact za2.1 hd
 ·obtain⟨v,h1,h2⟩:=hp.run a w Z M hx (fun i b hb=>(hr i b hb).1)
  refine zc2 h1 ⟨Z,fun _ _=>rfl,?_,fun i b h=>by simp at h,fun j b h=>by simp at h,fun j j' x h=>by simp at h,fun j x h=>by simp at h,Upto.refl _⟩
  exact AV.rep_mono (Upto.refl _) (fun q _ hq=>zfj rfl hq) _ (fun _ _=>rfl) _ h2
 ·refine⟨hp.rdH,fun i o h=>by simp at h,fun i o h=>by simp at h,fun i h=>by simp at h,hf,fun i hi=>.inl ?_,fun b h=>by simp at h,fun i b h=>by simp at h⟩
  rcases hp.ids i hi with⟨t,ht⟩|⟨j,b,hj,hij⟩
  ·exact hD t i ht
  ·have :=hDH j b (hp.rdH j b hj)
   rcases hij with rfl|hij
   ·exact this.1
   ·exact this.2 i hij
theorem zaf {d:Nat} {op:Op} {ty:TypeId} {pos:String} {af:Array Edge} {g:Option (Nat×Bool)} {rd:List (Nat×Blk)} {out:AV} (hd:Nat.blt d N=true) (hg:za3 ops (get E) ⟨some d,op,ty,pos,af,g⟩ true)
  (hp:zav P ⟨some d,op,ty,pos,af,g⟩ (get E) (getH H) rd out) (h:wpA P L N ops chk Q l ⟨(d,out)::E,H,n⟩ ((n,⟨true,rd,out,[],[]⟩)::tr)):
  wpA P L N ops chk Q (⟨some d,op,ty,pos,af,g⟩::l) ⟨E,H,n⟩ tr:=
 ⟨_,zkU hd hg hp,h⟩
theorem zae {d:Nat} {op:Op} {ty:TypeId} {pos:String} {af:Array Edge} {g:Option (Nat×Bool)} (hd:Nat.blt d N=true) (hg:za3 ops (get E) ⟨some d,op,ty,pos,af,g⟩ false)
  (h:wpA P L N ops chk Q l ⟨(d,.r (.v undef))::E,H,n⟩ ((n,zaV)::tr)):wpA P L N ops chk Q (⟨some d,op,ty,pos,af,g⟩::l) ⟨E,H,n⟩ tr:=by
 refine⟨zaV,⟨fun x hx=>?_,hg,(fun h=>by cases h),fun _=>rfl,fun D hD hDH hf=>?_⟩,h⟩
 ·injection hx with hx;subst hx;exact za2.1 hd
 ·exact⟨fun i b h=>by simp[zaV]at h,fun i o h=>by simp[zaV]at h,fun i o h=>by simp[zaV]at h,fun i h=>by simp[zaV]at h,hf,fun i hi=>by simp[zaV,AV.ids]at hi,fun b h=>by simp[zaV]at h,fun i b h=>by simp[zaV]at h⟩
theorem zbn {d:Nat} {op:Op} {ty:TypeId} {pos:String} {af:Array Edge} {g:Option (Nat×Bool)} {rd:List (Nat×Blk)} {p:Prop} [Decidable p] (hd:Nat.blt d N=true) (hg:za3 ops (get E) ⟨some d,op,ty,pos,af,g⟩ true)
  (hp:zav P ⟨some d,op,ty,pos,af,g⟩ (get E) (getH H) rd (.r (.v (.bool (decide p)))))
  (ht:p→wpA P L N ops chk Q l ⟨(d,.r (.v (.bool true)))::E,H,n⟩ ((n,⟨true,rd,.r (.v (.bool true)),[],[]⟩)::tr))
  (hf:¬p→wpA P L N ops chk Q l ⟨(d,.r (.v (.bool false)))::E,H,n⟩ ((n,⟨true,rd,.r (.v (.bool false)),[],[]⟩)::tr)):
  wpA P L N ops chk Q (⟨some d,op,ty,pos,af,g⟩::l) ⟨E,H,n⟩ tr:=by
 by_cases h:p
 ·rw[decide_eq_true h]at hp
  exact zaf hd hg hp (ht h)
 ·rw[decide_eq_false h]at hp
  exact zaf hd hg hp (hf h)
theorem zf3 {S:St} (h:Q S):wpA P L N ops (fun _=>true) Q [] S tr:=⟨rfl,h⟩
theorem zjx (hc:chk tr.reverse=true) {S:St} (h:Q S):wpA P L N ops chk Q [] S tr:=⟨hc,h⟩
end
def zfk:List Oper→Nat→Option Tmp
 |[],_=>none
 |o::_,0=>o.dst
 |_::l,j+1=>zfk l j
theorem zfl:∀(l:List Oper) (j:Nat),zfk l j=(l[j]?).bind (·.dst)
 |[],j=>by simp[zfk]
 |o::l,0=>by simp[zfk]
 |o::l,j+1=>by simp[zfk,zfl l j]
theorem zdH {l:List Oper} {env:Nat→AV} {o:Oper} {j:Nat} {want x b:Bool} {t:Tmp} (hg:o.guard=some (j,want)) (ht:zfk l j=some t) (he:env t= .r (.v (.bool x))) (hb:b=(x == want)):za3 l.toArray env o b:=
 .inr (.inl ⟨j,want,t,x,hg,by rw[zfl]at ht;simpa using ht,he,hb⟩)
theorem zht {l:List Oper} {env:Nat→AV} {o:Oper} {j:Nat} {want:Bool} {t:Tmp} (hg:o.guard=some (j,want)) (ht:zfk l j=some t) (he:env t= .r (.v undef)):za3 l.toArray env o false:=
 .inr (.inr ⟨j,want,t,hg,by rw[zfl]at ht;simpa using ht,he,rfl⟩)
theorem ret1 {P:Program} {L:Ln} {fn:Func} {S:St} {r x:AV} {t:Nat} {F:List Nat} (G:List Nat) (hrt:Rt (getH S.H) L.n G x r F) (hres:fn.results= #[.tmp t]) (hx:get S.env t=x) (hn:zbl L F G=true):(Exit.ret= .normal∨Exit.ret= .ret)∧zeF P L fn S r []:=
 ⟨.inr rfl,⟨⟨x,F,G,.one _ _ hres (.tmp _ _ hx),hrt,hn⟩,fun i b h=>by simp[zaM]at h⟩⟩
theorem zcL {post:List (Option Blk)} {P:Program} {L:Ln} {fn:Func} {S:St} {r x:AV} {t:Nat} {F:List Nat} (G:List Nat) (hrt:Rt (getH S.H) L.n G x r F) (hres:fn.results= #[.tmp t]) (hx:get S.env t=x) (hp:∀i b,(i,some b)∈zaM 0 post→getH S.H i=some b∧b.ids=[]) (hn:zbl L F G=true):(Exit.ret= .normal∨Exit.ret= .ret)∧zeF P L fn S r post:=
 ⟨.inr rfl,⟨⟨x,F,G,.one _ _ hres (.tmp _ _ hx),hrt,hn⟩,hp⟩⟩
theorem ret2 {P:Program} {L:Ln} {fn:Func} {S:St} {r s x y:AV} {t u:Nat} {F F':List Nat} (G:List Nat) (hrt:Rt (getH S.H) L.n G x r F) (hrs:Rt (getH S.H) L.n G y s F') (hres:fn.results= #[.tmp t,.tmp u]) (hx:get S.env t=x) (hy:get S.env u=y) (hn:zbl L (F++(F'++[])) G=true):(Exit.ret= .normal∨Exit.ret= .ret)∧zeF P L fn S (.tu [r,s]) []:=
 ⟨.inr rfl,⟨⟨.tu [x,y],_,G,.two _ _ _ _ hres (.tmp _ _ hx) (.tmp _ _ hy),.tu _ _ _ (.cons _ _ _ _ _ _ hrt (.cons _ _ _ _ _ _ hrs .nil)),hn⟩,fun i b h=>by simp[zaM]at h⟩⟩
theorem zoZ {post:List (Option Blk)} {P:Program} {L:Ln} {fn:Func} {S:St} {r s x y:AV} {t u:Nat} {F F':List Nat} (G:List Nat) (hrt:Rt (getH S.H) L.n G x r F) (hrs:Rt (getH S.H) L.n G y s F') (hres:fn.results= #[.tmp t,.tmp u]) (hx:get S.env t=x) (hy:get S.env u=y) (hp:∀i b,(i,some b)∈zaM 0 post→getH S.H i=some b∧b.ids=[]) (hn:zbl L (F++(F'++[])) G=true):(Exit.ret= .normal∨Exit.ret= .ret)∧zeF P L fn S (.tu [r,s]) post:=
 ⟨.inr rfl,⟨⟨.tu [x,y],_,G,.two _ _ _ _ hres (.tmp _ _ hx) (.tmp _ _ hy),.tu _ _ _ (.cons _ _ _ _ _ _ hrt (.cons _ _ _ _ _ _ hrs .nil)),hn⟩,hp⟩⟩
theorem ret3 {P:Program} {L:Ln} {fn:Func} {S:St} {r s q x y z:AV} {t u v:Nat} {F F' F'':List Nat} (G:List Nat) (hrt:Rt (getH S.H) L.n G x r F) (hrs:Rt (getH S.H) L.n G y s F') (hrq:Rt (getH S.H) L.n G z q F'') (hres:fn.results= #[.tmp t,.tmp u,.tmp v]) (hx:get S.env t=x) (hy:get S.env u=y) (hz:get S.env v=z) (hn:zbl L (F++(F'++(F''++[]))) G=true):(Exit.ret= .normal∨Exit.ret= .ret)∧zeF P L fn S (.tu [r,s,q]) []:=
 ⟨.inr rfl,⟨⟨.tu [x,y,z],_,G,.three _ _ _ _ _ _ hres (.tmp _ _ hx) (.tmp _ _ hy) (.tmp _ _ hz),.tu _ _ _ (.cons _ _ _ _ _ _ hrt (.cons _ _ _ _ _ _ hrs (.cons _ _ _ _ _ _ hrq .nil))),hn⟩,fun i b h=>by simp[zaM]at h⟩⟩
theorem zbp:∀{post:List (Option Blk)} {S:St},(post.all fun o=>o.isNone)=true→∀i b,(i,some b)∈zaM 0 post→getH S.H i=some b∧b.ids=[]:=by
 intro post S h i b hib
 have h1:=List.mem_of_getElem? (zaK.1 hib).2
 have :=List.all_eq_true.1 h _ h1
 cases this
theorem Rt.rv {H:Nat→Option Blk} {L:Nat} {G:List Nat} {x y:Value} (h:x=y):Rt H L G (.r (.v x)) (.r (.v y)) []:=h▸ .r _
theorem Rt.int {H:Nat→Option Blk} {L:Nat} {G:List Nat} {k:IntKind} {x y:Int} (h:x=y):Rt H L G (.r (.v (.int k x))) (.r (.v (.int k y))) []:=h▸ .r _
theorem Rt.bool {H:Nat→Option Blk} {L:Nat} {G:List Nat} {x y:Bool} (h:x=y):Rt H L G (.r (.v (.bool x))) (.r (.v (.bool y))) []:=h▸ .r _
theorem zio (n:Nat):(OfNat.ofNat n:Int)=((OfNat.ofNat n:Nat):Int):=rfl
/-! ## Without a look at own blocks -/
section
variable {P:Program} {env:Nat→AV} {H:Nat→Option Blk} {d:Option Tmp} {ty:TypeId} {pos:String} {af:Array Edge} {g:Option (Nat×Bool)}
theorem ev_v {Z:Nat→Value} {M:Nat→Prop} {w:World} {x:Operand} {X v:Value} (h:evA env x= .r (.v X)) (hr:(evA env x).rep Z M w v):v=X:=by
 rw[h,AV.rep,RV.rep]at hr;exact hr
theorem zaZ {x:Operand} {out:AV} (hx:evA env x=out):zav P ⟨d,.move x,ty,pos,af,g⟩ env H [] out:=by
 subst hx
 refine⟨fun i b h=>by simp at h,fun i hi=>?_,fun a w Z M hr _=>⟨a.eval x,rfl,hr x (by simp[Op.operands])⟩⟩
 cases x with
 |tmp t=>exact .inl ⟨t,hi⟩
 |const v=>simp[evA,AV.ids]at hi
 |global g=>simp[evA,AV.ids]at hi
 |func f=>simp[evA,AV.ids]at hi
theorem zaF {x:Operand} {out:AV} (hx:evA env x=out):zav P ⟨d,.assign x,ty,pos,af,g⟩ env H [] out:=by
 have :=zaZ (P:=P) (H:=H) (d:=d) (ty:=ty) (pos:=pos) (af:=af) (g:=g) hx
 exact⟨this.rdH,this.ids,this.run⟩
theorem zbZ {x:Operand} {out:AV} (hx:evA env x=out):∀i∈out.ids,(∃t,i∈(env t).ids)∨∃j b,(j,b)∈([]:List (Nat×Blk))∧(i=j∨i∈b.ids):=by
 intro i hi
 subst hx
 cases x with
 |tmp t=>exact .inl ⟨t,hi⟩
 |const v=>simp[evA,AV.ids]at hi
 |global g=>simp[evA,AV.ids]at hi
 |func f=>simp[evA,AV.ids]at hi
theorem zfp {c x y:Operand} {b:Bool} {out:AV} (hc:evA env c= .r (.v (.bool b))) (ho:evA env (bif b then x else y)=out):zav P ⟨d,.pick c x y,ty,pos,af,g⟩ env H [] out:=by
 refine⟨fun i b h=>by simp at h,zbZ ho,fun a w Z M hr _=>?_⟩
 have h1:=ev_v hc (hr c (by simp[Op.operands]))
 refine⟨a.eval (bif b then x else y),?_,?_⟩
 ·simp only[execOp,h1]
  cases b<;>rfl
 ·rw[←ho]
  cases b
  ·exact hr y (by simp[Op.operands])
  ·exact hr x (by simp[Op.operands])
theorem zgk {op:Op} {x:Operand} {X U:Value} (hops:op.operands= #[x]) (hx:evA env x= .r (.v X)) (h:∀(ρ:Operand→Value) (w:World),ρ x=X→(execOp ρ ⟨d,op,ty,pos,af,g⟩).run P w= .ok (.value U) w):zav P ⟨d,op,ty,pos,af,g⟩ env H [] (.r (.v U)):=
 ⟨fun i b h=>by simp at h,fun i hi=>by simp[AV.ids]at hi,fun a w Z M hr _=>⟨U,h a.eval w (ev_v hx (hr x (by simp[hops]))),by rw[AV.rep,RV.rep]⟩⟩
theorem zaU {op:Op} {x y:Operand} {X Y U:Value} (hops:op.operands= #[x,y]) (hx:evA env x= .r (.v X)) (hy:evA env y= .r (.v Y)) (h:∀(ρ:Operand→Value) (w:World),ρ x=X→ρ y=Y→(execOp ρ ⟨d,op,ty,pos,af,g⟩).run P w= .ok (.value U) w):zav P ⟨d,op,ty,pos,af,g⟩ env H [] (.r (.v U)):=
 ⟨fun i b h=>by simp at h,fun i hi=>by simp[AV.ids]at hi,fun a w Z M hr _=>⟨U,h a.eval w (ev_v hx (hr x (by simp[hops]))) (ev_v hy (hr y (by simp[hops]))),by rw[AV.rep,RV.rep]⟩⟩
section
variable {t yt:TypeId} {x y:Operand} {k:IntKind} {m p c:Int}
theorem zjf (hx:evA env x= .r (.v (.int k m))) (hy:evA env y= .r (.v (.int k p))) (hc:k.wrap (m+p)=c):zav P ⟨d,.binOp .add t x y yt,ty,pos,af,g⟩ env H [] (.r (.v (.int k c))):=
 zaU rfl hx hy fun ρ w h1 h2=>by subst hc;simp[execOp,h1,h2,go_sem,Op.intArith]
theorem zjs (hx:evA env x= .r (.v (.int k m))) (hy:evA env y= .r (.v (.int k p))) (hc:k.wrap (m-p)=c):zav P ⟨d,.binOp .sub t x y yt,ty,pos,af,g⟩ env H [] (.r (.v (.int k c))):=
 zaU rfl hx hy fun ρ w h1 h2=>by subst hc;simp[execOp,h1,h2,go_sem,Op.intArith]
theorem zjk (hx:evA env x= .r (.v (.int k m))) (hy:evA env y= .r (.v (.int k p))) (hc:k.wrap (m*p)=c):zav P ⟨d,.binOp .mul t x y yt,ty,pos,af,g⟩ env H [] (.r (.v (.int k c))):=
 zaU rfl hx hy fun ρ w h1 h2=>by subst hc;simp[execOp,h1,h2,go_sem,Op.intArith]
theorem zjo (hx:evA env x= .r (.v (.int k m))) (hy:evA env y= .r (.v (.int k p))) (h0:p≠0) (hc:k.wrap (m.tdiv p)=c):zav P ⟨d,.binOp .quo t x y yt,ty,pos,af,g⟩ env H [] (.r (.v (.int k c))):=
 zaU rfl hx hy fun ρ w h1 h2=>by subst hc;simp[execOp,h1,h2,go_sem,Op.intDiv,h0]
theorem zjp (hx:evA env x= .r (.v (.int k m))) (hy:evA env y= .r (.v (.int k p))) (h0:p≠0) (hc:m.tmod p=c):zav P ⟨d,.binOp .rem t x y yt,ty,pos,af,g⟩ env H [] (.r (.v (.int k c))):=
 zaU rfl hx hy fun ρ w h1 h2=>by subst hc;simp[execOp,h1,h2,go_sem,Op.intDiv,h0]
theorem zjg (hx:evA env x= .r (.v (.int k m))) (hy:evA env y= .r (.v (.int k p))) (hc:bits .and k m p=c):zav P ⟨d,.binOp .and t x y yt,ty,pos,af,g⟩ env H [] (.r (.v (.int k c))):=
 zaU rfl hx hy fun ρ w h1 h2=>by subst hc;simp[execOp,h1,h2,go_sem,Op.intBits,bits]
theorem p_or (hx:evA env x= .r (.v (.int k m))) (hy:evA env y= .r (.v (.int k p))) (hc:bits .or k m p=c):zav P ⟨d,.binOp .or t x y yt,ty,pos,af,g⟩ env H [] (.r (.v (.int k c))):=
 zaU rfl hx hy fun ρ w h1 h2=>by subst hc;simp[execOp,h1,h2,go_sem,Op.intBits,bits]
theorem zjt (hx:evA env x= .r (.v (.int k m))) (hy:evA env y= .r (.v (.int k p))) (hc:bits .xor k m p=c):zav P ⟨d,.binOp .xor t x y yt,ty,pos,af,g⟩ env H [] (.r (.v (.int k c))):=
 zaU rfl hx hy fun ρ w h1 h2=>by subst hc;simp[execOp,h1,h2,go_sem,Op.intBits,bits]
theorem zjq {yk:IntKind} (hx:evA env x= .r (.v (.int k m))) (hy:evA env y= .r (.v (.int yk p))) (h0:0≤p) (hc:k.wrap (m*2^(min p.toNat k.bits))=c):zav P ⟨d,.binOp .shl t x y yt,ty,pos,af,g⟩ env H [] (.r (.v (.int k c))):=
 zaU rfl hx hy fun ρ w h1 h2=>by subst hc;simp[execOp,h1,h2,go_sem,Op.shift,show ¬p<0 by omega]
theorem zjr {yk:IntKind} (hx:evA env x= .r (.v (.int k m))) (hy:evA env y= .r (.v (.int yk p))) (h0:0≤p) (hc:m.fdiv (2^(min p.toNat k.bits))=c):zav P ⟨d,.binOp .shr t x y yt,ty,pos,af,g⟩ env H [] (.r (.v (.int k c))):=
 zaU rfl hx hy fun ρ w h1 h2=>by subst hc;simp[execOp,h1,h2,go_sem,Op.shift,show ¬p<0 by omega]
theorem zno (hx:evA env x= .r (.v (.int k m))) (hy:evA env y= .r (.v (.int k p))):zav P ⟨d,.binOp .lss t x y yt,ty,pos,af,g⟩ env H [] (.r (.v (.bool (decide (m<p))))):=
 zaU rfl hx hy fun ρ w h1 h2=>by simp[execOp,h1,h2,go_sem]
theorem znn (hx:evA env x= .r (.v (.int k m))) (hy:evA env y= .r (.v (.int k p))):zav P ⟨d,.binOp .leq t x y yt,ty,pos,af,g⟩ env H [] (.r (.v (.bool (decide (m≤p))))):=
 zaU rfl hx hy fun ρ w h1 h2=>by simp[execOp,h1,h2,go_sem]
theorem znl (hx:evA env x= .r (.v (.int k m))) (hy:evA env y= .r (.v (.int k p))):zav P ⟨d,.binOp .gtr t x y yt,ty,pos,af,g⟩ env H [] (.r (.v (.bool (decide (p<m))))):=
 zaU rfl hx hy fun ρ w h1 h2=>by simp[execOp,h1,h2,go_sem]
theorem znk (hx:evA env x= .r (.v (.int k m))) (hy:evA env y= .r (.v (.int k p))):zav P ⟨d,.binOp .geq t x y yt,ty,pos,af,g⟩ env H [] (.r (.v (.bool (decide (p≤m))))):=
 zaU rfl hx hy fun ρ w h1 h2=>by simp[execOp,h1,h2,go_sem]
theorem znj (hx:evA env x= .r (.v (.int k m))) (hy:evA env y= .r (.v (.int k p))):zav P ⟨d,.binOp .eql t x y yt,ty,pos,af,g⟩ env H [] (.r (.v (.bool (decide (m=p))))):=
 zaU rfl hx hy fun ρ w h1 h2=>by simp[execOp,h1,h2,go_sem];rw[Bool.eq_iff_iff];simp
theorem znp (hx:evA env x= .r (.v (.int k m))) (hy:evA env y= .r (.v (.int k p))):zav P ⟨d,.binOp .neq t x y yt,ty,pos,af,g⟩ env H [] (.r (.v (.bool (decide (¬m=p))))):=
 zaU rfl hx hy fun ρ w h1 h2=>by simp[execOp,h1,h2,go_sem];rw[Bool.eq_iff_iff];simp
theorem zjn {b:Bool} (hx:evA env x= .r (.v (.bool b))):zav P ⟨d,.unOp .not t x,ty,pos,af,g⟩ env H [] (.r (.v (.bool !b))):=
 zgk rfl hx fun ρ w h1=>by simp[execOp,h1,go_sem]
theorem zjl (hx:evA env x= .r (.v (.int k m))) (hc:k.wrap (0-m)=c):zav P ⟨d,.unOp .neg t x,ty,pos,af,g⟩ env H [] (.r (.v (.int k c))):=
 zgk rfl hx fun ρ w h1=>by subst hc;simp[execOp,h1,go_sem,Op.intArith]
theorem zmD {src dst:TypeId} {k':IntKind} [hI:ItT P dst k'] (hx:evA env x= .r (.v (.int k m))) (hs:(P.underlying src).isSome=true) (hc:k'.wrap m=c):zav P ⟨d,.convert src dst x,ty,pos,af,g⟩ env H [] (.r (.v (.int k' c))):=
 zgk rfl hx fun ρ w h1=>by
  subst hc
  have hd:=hI.ok
  have hk:P.intKind dst=k':=by simp[Program.intKind,hd]
  have :=run_convert_int (P:=P) w src dst k m hs (by rw[hk];exact hd)
  rw[hk]at this
  simp only[execOp,h1,Sem.run_bind,this,Result.andThen_ok]
  rfl
end
/-! ### Slices and pointers that are only read -/
section
variable {t:TypeId} {x y:Operand} {sz:Nat} {es:List (List RV)} {cs e:List RV}
theorem znm (hx:evA env x= .r (.sl sz es)) (ht:P.underlying t=some (.slice (P.elem t))):zav P ⟨d,.call { callee:=.builtin .len,args:= #[x],argTypes:= #[t]},ty,pos,af,g⟩ env H [] (.r (.v (.int .i64 es.length))):=by
 refine⟨fun i b h=>by simp at h,fun i hi=>by simp[AV.ids]at hi,fun a w Z M hr _=>?_⟩
 have h1:=hr x (by simp[Op.operands,Call.operands])
 rw[hx,AV.rep,RV.rep]at h1
 obtain⟨A,c,h2,_⟩:=h1
 refine⟨.int .i64 es.length,?_,by rw[AV.rep,RV.rep]⟩
 have :=run_len_slice (P:=P) w t ty A es.length c ht
 simp[execOp,resolve,h2,invoke,builtin,this,goInt]
theorem run_sizeOf {t:TypeId} {k:Nat} (h:(P.info? t).map (·.size)=some k) (w:World):(sizeOf t).run P w= .ok k w:=by
 cases hi:P.info? t with
 |none=>simp[hi]at h
 |some i=>simp[hi]at h;simp[sizeOf,typeInfo,hi,h]
theorem zfo {k:IntKind} {i:Int} {j:Nat} (hx:evA env x= .r (.sl sz es)) (hy:evA env y= .r (.v (.int k i))) (hi:i=(j:Int)) (he:es[j]? =some e) (ht:P.underlying t=some (.slice (P.elem t))) (hs:(P.info? (P.elem t)).map (·.size)=some sz):
  zav P ⟨d,.indexAddr t x y,ty,pos,af,g⟩ env H [] (.rp e):=by
 subst hi
 have hj:j<es.length:=by
  rcases Nat.lt_or_ge j es.length with h'|h'
  ·exact h'
  ·rw[List.getElem?_eq_none h']at he;cases he
 refine⟨fun i b h=>by simp at h,fun i hi=>by simp[AV.ids]at hi,fun a w Z M hr _=>?_⟩
 have h1:=hr x (by simp[Op.operands])
 have h2:=ev_v hy (hr y (by simp[Op.operands]))
 rw[hx,AV.rep,RV.rep]at h1
 obtain⟨A,c,h3,h4,h5,h6,h7⟩:=h1
 obtain⟨ad,rfl,h8,h9,h10⟩:=h7 (by rintro rfl;simp at hj)
 refine⟨.pointer (some (ad.add (j*sz))),?_,?_⟩
 ·have :=run_indexAt_slice (P:=P) w t ad es.length c k (j:Int) ht
  rw[if_pos ⟨by omega,by omega⟩,run_sizeOf hs]at this
  simp only[execOp,h2,h3,Sem.run_bind,this,Result.andThen_ok,Int.toNat_natCast]
  rfl
 ·rw[AV.rep]
  exact⟨_,rfl,by rw[add_block];exact h8,by rw[add_block];exact h9,RV.rows_get h10 h6 he⟩
theorem zkk {c:RV} (hx:evA env x= .rp (c::cs)) (hu':(P.underlying t).map zb9=some false):zav P ⟨d,.load t x,ty,pos,af,g⟩ env H [] (.r c):=by
 obtain⟨D,hu,hD⟩:=Option.map_eq_some_iff.1 hu'
 refine⟨fun i b h=>by simp at h,fun i hi=>by simp[AV.ids]at hi,fun a w Z M hr _=>?_⟩
 have h1:=hr x (by simp[Op.operands])
 rw[hx,AV.rep]at h1
 simp only[RV.row]at h1
 obtain⟨ad,h2,h3,h4,⟨u,h5,h6,h7⟩,_⟩:=h1
 refine⟨u,?_,by rw[AV.rep];exact h7⟩
 have hz:ad.add 0=ad:=rfl
 rw[hz]at h5
 simp only[execOp,h2,Instr.loadAt,Instr.sureAddr,Sem.run_bind,Sem.run_pure,Result.andThen_ok,zbs w ad t D u hu hD h5]
theorem ziF {Z:Nat→Value} {B:Nat→Prop} {w:World} {cs:List RV} {us:List Value} (h:RVs B w cs us):AV.reps Z B w (cs.map .r) us:=by
 induction h with
 |nil=>rw[List.map_nil,AV.reps]
 |cons h1 h2 _ ih=>rw[List.map_cons,AV.reps];exact⟨_,_,rfl,by rw[AV.rep];exact h2,ih⟩
theorem zkl (hx:evA env x= .rp cs) (hu':(P.underlying t).map zb9=some true) (hs:(P.info? t).map (·.size)=some cs.length):zav P ⟨d,.load t x,ty,pos,af,g⟩ env H [] (.ag (cs.map .r)):=by
 obtain⟨D,hu,hD⟩:=Option.map_eq_some_iff.1 hu'
 refine⟨fun i b h=>by simp at h,fun i hi=>?_,fun a w Z M hr _=>?_⟩
 ·exfalso
  have :∀l:List RV,AV.idss (l.map .r)=[]:=by
   intro l
   induction l with
   |nil=>rfl
   |cons x l ih=>simp[AV.idss,AV.ids,ih]
  rw[AV.ids,this]at hi
  cases hi
 have h1:=hr x (by simp[Op.operands])
 rw[hx,AV.rep]at h1
 obtain⟨ad,h2,h3,h4,h5⟩:=h1
 obtain⟨us,h6,h7⟩:=(RV.row_vals ad cs 0).1 h5
 have hl:(loadCells ad us.length).run P w= .ok us.toArray w:=run_loadCells_list (P:=P) w ad us (fun j v hv=>by have :=h7 j v hv;rwa [Nat.zero_add]at this)
 refine⟨.agg us.toArray,?_,by rw[AV.rep];exact⟨_,rfl,ziF h6⟩⟩
 have hagg:(isAgg t).run P w= .ok true w:=by
  simp only[isAgg,Sem.run_bind,run_underlying hu,Result.andThen_ok]
  cases D<;>first|rfl|(simp[zb9]at hD)
 have hz:(sizeOf t).run P w= .ok us.length w:=by rw[run_sizeOf hs,h6.len]
 simp only[execOp,h2,Instr.loadAt,Instr.sureAddr,loadVar,Sem.run_bind,Sem.run_pure,Result.andThen_ok,hagg,hz,if_true,hl]
end
end
/-! ## Which operation stands next -/
section
variable {P:Program} {L:Ln} {N:Nat} {ops:Array Oper} {chk:List (Nat×Sp)→Bool} {Q:St→Prop} {l:List Oper} {S:St} {tr:List (Nat×Sp)} {d:Option Tmp} {ty:TypeId} {pos:String} {af:Array Edge} {g:Option (Nat×Bool)}
theorem zej {x:Operand} (h:wpA P L N ops chk Q (⟨d,.move x,ty,pos,af,g⟩::l) S tr):wpA P L N ops chk Q (⟨d,.move x,ty,pos,af,g⟩::l) S tr:=h
theorem zcn {x:Operand} (h:wpA P L N ops chk Q (⟨d,.assign x,ty,pos,af,g⟩::l) S tr):wpA P L N ops chk Q (⟨d,.assign x,ty,pos,af,g⟩::l) S tr:=h
theorem zel {c:Operand} {x:Operand} {y:Operand} (h:wpA P L N ops chk Q (⟨d,.pick c x y,ty,pos,af,g⟩::l) S tr):wpA P L N ops chk Q (⟨d,.pick c x y,ty,pos,af,g⟩::l) S tr:=h
theorem zcJ {b:BinOp} {t:TypeId} {x:Operand} {y:Operand} {yt:TypeId} (h:wpA P L N ops chk Q (⟨d,.binOp b t x y yt,ty,pos,af,g⟩::l) S tr):wpA P L N ops chk Q (⟨d,.binOp b t x y yt,ty,pos,af,g⟩::l) S tr:=h
theorem zi8 {u:UnOp} {t:TypeId} {x:Operand} (h:wpA P L N ops chk Q (⟨d,.unOp u t x,ty,pos,af,g⟩::l) S tr):wpA P L N ops chk Q (⟨d,.unOp u t x,ty,pos,af,g⟩::l) S tr:=h
theorem zeh {s:TypeId} {t:TypeId} {x:Operand} (h:wpA P L N ops chk Q (⟨d,.convert s t x,ty,pos,af,g⟩::l) S tr):wpA P L N ops chk Q (⟨d,.convert s t x,ty,pos,af,g⟩::l) S tr:=h
theorem zeg {c:Call} (h:wpA P L N ops chk Q (⟨d,.call c,ty,pos,af,g⟩::l) S tr):wpA P L N ops chk Q (⟨d,.call c,ty,pos,af,g⟩::l) S tr:=h
theorem zei {t:TypeId} {x:Operand} (h:wpA P L N ops chk Q (⟨d,.load t x,ty,pos,af,g⟩::l) S tr):wpA P L N ops chk Q (⟨d,.load t x,ty,pos,af,g⟩::l) S tr:=h
theorem zdi {t:TypeId} {x:Operand} {y:Operand} (h:wpA P L N ops chk Q (⟨d,.store t x y,ty,pos,af,g⟩::l) S tr):wpA P L N ops chk Q (⟨d,.store t x y,ty,pos,af,g⟩::l) S tr:=h
theorem zdh {t:TypeId} {x:Operand} {y:Operand} (h:wpA P L N ops chk Q (⟨d,.indexAddr t x y,ty,pos,af,g⟩::l) S tr):wpA P L N ops chk Q (⟨d,.indexAddr t x y,ty,pos,af,g⟩::l) S tr:=h
theorem zdg {t:TypeId} {x:Operand} {i:Nat} (h:wpA P L N ops chk Q (⟨d,.fieldAddr t x i,ty,pos,af,g⟩::l) S tr):wpA P L N ops chk Q (⟨d,.fieldAddr t x i,ty,pos,af,g⟩::l) S tr:=h
theorem zbT {x:Operand} {i:Nat} (h:wpA P L N ops chk Q (⟨d,.extract x i,ty,pos,af,g⟩::l) S tr):wpA P L N ops chk Q (⟨d,.extract x i,ty,pos,af,g⟩::l) S tr:=h
theorem zc5 {t:TypeId} (h:wpA P L N ops chk Q (⟨d,.alloc t,ty,pos,af,g⟩::l) S tr):wpA P L N ops chk Q (⟨d,.alloc t,ty,pos,af,g⟩::l) S tr:=h
theorem zfP {t:TypeId} {x:Operand} (h:wpA P L N ops chk Q (⟨d,.box t x,ty,pos,af,g⟩::l) S tr):wpA P L N ops chk Q (⟨d,.box t x,ty,pos,af,g⟩::l) S tr:=h
theorem zca {t:TypeId} {p:Array (Nat×Operand)} (h:wpA P L N ops chk Q (⟨d,.build t p,ty,pos,af,g⟩::l) S tr):wpA P L N ops chk Q (⟨d,.build t p,ty,pos,af,g⟩::l) S tr:=h
theorem zco {t:TypeId} {m:Nat} {p:Array (Nat×Operand)} (h:wpA P L N ops chk Q (⟨d,.buildSlice t m p,ty,pos,af,g⟩::l) S tr):wpA P L N ops chk Q (⟨d,.buildSlice t m p,ty,pos,af,g⟩::l) S tr:=h
theorem zaN {t:TypeId} {x:Operand} {lo:Option Operand} {hi:Option Operand} {mx:Option Operand} (h:wpA P L N ops chk Q (⟨d,.slice t x lo hi mx,ty,pos,af,g⟩::l) S tr):wpA P L N ops chk Q (⟨d,.slice t x lo hi mx,ty,pos,af,g⟩::l) S tr:=h
theorem zcp {t:TypeId} {m:Operand} {c:Operand} (h:wpA P L N ops chk Q (⟨d,.makeSlice t m c,ty,pos,af,g⟩::l) S tr):wpA P L N ops chk Q (⟨d,.makeSlice t m c,ty,pos,af,g⟩::l) S tr:=h
theorem zek {x:Operand} (h:wpA P L N ops chk Q (⟨d,.nilCheck x,ty,pos,af,g⟩::l) S tr):wpA P L N ops chk Q (⟨d,.nilCheck x,ty,pos,af,g⟩::l) S tr:=h
theorem zc6 {t:TypeId} {x y:Operand} {yt:TypeId} (h:wpA P L N ops chk Q (⟨d,.binOp .add t x y yt,ty,pos,af,g⟩::l) S tr):wpA P L N ops chk Q (⟨d,.binOp .add t x y yt,ty,pos,af,g⟩::l) S tr:=h
theorem zdd {t:TypeId} {x y:Operand} {yt:TypeId} (h:wpA P L N ops chk Q (⟨d,.binOp .sub t x y yt,ty,pos,af,g⟩::l) S tr):wpA P L N ops chk Q (⟨d,.binOp .sub t x y yt,ty,pos,af,g⟩::l) S tr:=h
theorem zc8 {t:TypeId} {x y:Operand} {yt:TypeId} (h:wpA P L N ops chk Q (⟨d,.binOp .mul t x y yt,ty,pos,af,g⟩::l) S tr):wpA P L N ops chk Q (⟨d,.binOp .mul t x y yt,ty,pos,af,g⟩::l) S tr:=h
theorem zc9 {t:TypeId} {x y:Operand} {yt:TypeId} (h:wpA P L N ops chk Q (⟨d,.binOp .quo t x y yt,ty,pos,af,g⟩::l) S tr):wpA P L N ops chk Q (⟨d,.binOp .quo t x y yt,ty,pos,af,g⟩::l) S tr:=h
theorem zda {t:TypeId} {x y:Operand} {yt:TypeId} (h:wpA P L N ops chk Q (⟨d,.binOp .rem t x y yt,ty,pos,af,g⟩::l) S tr):wpA P L N ops chk Q (⟨d,.binOp .rem t x y yt,ty,pos,af,g⟩::l) S tr:=h
theorem zc7 {t:TypeId} {x y:Operand} {yt:TypeId} (h:wpA P L N ops chk Q (⟨d,.binOp .and t x y yt,ty,pos,af,g⟩::l) S tr):wpA P L N ops chk Q (⟨d,.binOp .and t x y yt,ty,pos,af,g⟩::l) S tr:=h
theorem zef {t:TypeId} {x y:Operand} {yt:TypeId} (h:wpA P L N ops chk Q (⟨d,.binOp .or t x y yt,ty,pos,af,g⟩::l) S tr):wpA P L N ops chk Q (⟨d,.binOp .or t x y yt,ty,pos,af,g⟩::l) S tr:=h
theorem zde {t:TypeId} {x y:Operand} {yt:TypeId} (h:wpA P L N ops chk Q (⟨d,.binOp .xor t x y yt,ty,pos,af,g⟩::l) S tr):wpA P L N ops chk Q (⟨d,.binOp .xor t x y yt,ty,pos,af,g⟩::l) S tr:=h
theorem zdb {t:TypeId} {x y:Operand} {yt:TypeId} (h:wpA P L N ops chk Q (⟨d,.binOp .shl t x y yt,ty,pos,af,g⟩::l) S tr):wpA P L N ops chk Q (⟨d,.binOp .shl t x y yt,ty,pos,af,g⟩::l) S tr:=h
theorem zdc {t:TypeId} {x y:Operand} {yt:TypeId} (h:wpA P L N ops chk Q (⟨d,.binOp .shr t x y yt,ty,pos,af,g⟩::l) S tr):wpA P L N ops chk Q (⟨d,.binOp .shr t x y yt,ty,pos,af,g⟩::l) S tr:=h
theorem zbM {t:TypeId} {x y:Operand} {yt:TypeId} (h:wpA P L N ops chk Q (⟨d,.binOp .lss t x y yt,ty,pos,af,g⟩::l) S tr):wpA P L N ops chk Q (⟨d,.binOp .lss t x y yt,ty,pos,af,g⟩::l) S tr:=h
theorem zbL {t:TypeId} {x y:Operand} {yt:TypeId} (h:wpA P L N ops chk Q (⟨d,.binOp .leq t x y yt,ty,pos,af,g⟩::l) S tr):wpA P L N ops chk Q (⟨d,.binOp .leq t x y yt,ty,pos,af,g⟩::l) S tr:=h
theorem zbK {t:TypeId} {x y:Operand} {yt:TypeId} (h:wpA P L N ops chk Q (⟨d,.binOp .gtr t x y yt,ty,pos,af,g⟩::l) S tr):wpA P L N ops chk Q (⟨d,.binOp .gtr t x y yt,ty,pos,af,g⟩::l) S tr:=h
theorem zbJ {t:TypeId} {x y:Operand} {yt:TypeId} (h:wpA P L N ops chk Q (⟨d,.binOp .geq t x y yt,ty,pos,af,g⟩::l) S tr):wpA P L N ops chk Q (⟨d,.binOp .geq t x y yt,ty,pos,af,g⟩::l) S tr:=h
theorem zbh {t:TypeId} {x y:Operand} {yt:TypeId} (h:wpA P L N ops chk Q (⟨d,.binOp .eql t x y yt,ty,pos,af,g⟩::l) S tr):wpA P L N ops chk Q (⟨d,.binOp .eql t x y yt,ty,pos,af,g⟩::l) S tr:=h
theorem zbN {t:TypeId} {x y:Operand} {yt:TypeId} (h:wpA P L N ops chk Q (⟨d,.binOp .neq t x y yt,ty,pos,af,g⟩::l) S tr):wpA P L N ops chk Q (⟨d,.binOp .neq t x y yt,ty,pos,af,g⟩::l) S tr:=h
theorem zdk {t:TypeId} {x:Operand} (h:wpA P L N ops chk Q (⟨d,.unOp .not t x,ty,pos,af,g⟩::l) S tr):wpA P L N ops chk Q (⟨d,.unOp .not t x,ty,pos,af,g⟩::l) S tr:=h
theorem zdj {t:TypeId} {x:Operand} (h:wpA P L N ops chk Q (⟨d,.unOp .neg t x,ty,pos,af,g⟩::l) S tr):wpA P L N ops chk Q (⟨d,.unOp .neg t x,ty,pos,af,g⟩::l) S tr:=h
theorem zdf {xs:Array Operand} {ats:Array TypeId} (h:wpA P L N ops chk Q (⟨d,.call { callee:=.builtin .len,args:=xs,argTypes:=ats},ty,pos,af,g⟩::l) S tr):wpA P L N ops chk Q (⟨d,.call { callee:=.builtin .len,args:=xs,argTypes:=ats},ty,pos,af,g⟩::l) S tr:=h
theorem zbA {xs:Array Operand} {ats:Array TypeId} (h:wpA P L N ops chk Q (⟨d,.call { callee:=.builtin .append,args:=xs,argTypes:=ats},ty,pos,af,g⟩::l) S tr):wpA P L N ops chk Q (⟨d,.call { callee:=.builtin .append,args:=xs,argTypes:=ats},ty,pos,af,g⟩::l) S tr:=h
theorem zdV {xs:Array Operand} {ats:Array TypeId} (h:wpA P L N ops chk Q (⟨d,.call { callee:=.builtin .min,args:=xs,argTypes:=ats},ty,pos,af,g⟩::l) S tr):wpA P L N ops chk Q (⟨d,.call { callee:=.builtin .min,args:=xs,argTypes:=ats},ty,pos,af,g⟩::l) S tr:=h
theorem zdU {xs:Array Operand} {ats:Array TypeId} (h:wpA P L N ops chk Q (⟨d,.call { callee:=.builtin .max,args:=xs,argTypes:=ats},ty,pos,af,g⟩::l) S tr):wpA P L N ops chk Q (⟨d,.call { callee:=.builtin .max,args:=xs,argTypes:=ats},ty,pos,af,g⟩::l) S tr:=h
theorem is_f (f:FuncId) {xs:Array Operand} {ats:Array TypeId} (h:wpA P L N ops chk Q (⟨d,.call { callee:=.value (.func f),args:=xs,argTypes:=ats},ty,pos,af,g⟩::l) S tr):wpA P L N ops chk Q (⟨d,.call { callee:=.value (.func f),args:=xs,argTypes:=ats},ty,pos,af,g⟩::l) S tr:=h
end
/-! ## Elements -/
def bys (l:List UInt8):List (List RV):=l.map fun b=>[.v (.int .u8 (b.toNat:Int))]
def nums (k:IntKind) (l:List Int):List (List RV):=l.map fun x=>[.v (.int k x)]
theorem zas (l:List UInt8):(bys l).length=l.length:=by simp[bys]
theorem zao (k:IntKind) (l:List Int):(nums k l).length=l.length:=by simp[nums]
theorem zbw {l:List UInt8} {j:Nat} (h:j<l.length):(bys l)[j]? =some [.v (.int .u8 ((l.getD j 0).toNat:Int))]:=by simp[bys,h]
theorem zbP {k:IntKind} {l:List Int} {j:Nat} (h:j<l.length):(nums k l)[j]? =some [.v (.int k (l.getD j 0))]:=by simp[nums,h]
theorem zbf (a b:List UInt8):bys (a++b)=bys a++bys b:=by simp[bys]
theorem nums_append (k:IntKind) (a b:List Int):nums k (a++b)=nums k a++nums k b:=by simp[nums]
theorem zic (a:List UInt8) (k:Nat):bys (a.take k)=(bys a).take k:=by simp[bys,List.map_take]
theorem zib (a:List UInt8) (k:Nat):bys (a.drop k)=(bys a).drop k:=by simp[bys,List.map_drop]
/-! ## int's arithmetic on numbers that are counted -/
theorem zj4 (a:Nat) (h:a<9223372036854775807):IntKind.i64.wrap ((a:Int)+1)=((a+1:Nat):Int):=by rw[IntWalk.i64_in _ (by omega)];omega
theorem zj3 (a:Nat) (h:0<a) (h2:a<9223372036854775808):IntKind.i64.wrap ((a:Int)-1)=((a-1:Nat):Int):=by rw[IntWalk.i64_in _ (by omega)];omega
theorem zil (a b:Nat) (h:a+b<9223372036854775808):IntKind.i64.wrap ((a:Int)+(b:Int))=((a+b:Nat):Int):=by rw[IntWalk.i64_in _ (by omega)];omega
theorem zim (a b:Nat) (h:b≤a) (h2:a<9223372036854775808):IntKind.i64.wrap ((a:Int)-(b:Int))=((a-b:Nat):Int):=by rw[IntWalk.i64_in _ (by omega)];omega
section
variable {P:Program} {L:Ln} {N:Nat} {Q:Exit→St→Prop} {S:St}
structure CX (c:Bool) (T F:Prop):Prop where
 t:c=true→T
 f:c=false→F
theorem zjR {p:Prop} {_:Decidable p}:CX (decide p) p (¬p):=⟨of_decide_eq_true,of_decide_eq_false⟩
theorem ze8 {c:Operand} {x y:Code} {b:Bool} {T F:Prop} (hc:evA S.envF c= .r (.v (.bool b))) (hx:CX b T F) (ht:T→awp P L N x Q S) (hf:F→awp P L N y Q S):awp P L N (.cond c x y) Q S:=zf8 hc (fun h=>ht (hx.t h)) (fun h=>hf (hx.f h))
theorem zck {c:Operand} {x y:Code} (hc:evA S.envF c= .r (.v (.bool true))) (h:awp P L N x Q S):awp P L N (.cond c x y) Q S:=zf8 hc (fun _=>h) (fun h=>by cases h)
theorem zcj {c:Operand} {x y:Code} (hc:evA S.envF c= .r (.v (.bool false))) (h:awp P L N y Q S):awp P L N (.cond c x y) Q S:=zf8 hc (fun h=>by cases h) (fun _=>h)
end
/-! ## The end of a round -/
section
variable {S:St} {ρ:Nat→Nat} {G:List Nat} {t:Nat} {l:List (Nat×AV)}
theorem zfS:eLe S ρ G []:=trivial
theorem zja (h:eLe S ρ G l):eLe S ρ G ((t,.na)::l):=⟨.na _,h⟩
theorem le_r {c c':RV} (h:eLe S ρ G l) (e:c=c') (hx:get S.env t= .r c):eLe S ρ G ((t,.r c')::l):=by
 subst e;refine⟨?_,h⟩;rw[show S.envF t= .r c from hx];exact .r _
theorem zfR {k:IntKind} {m p:Int} (h:eLe S ρ G l) (e:m=p) (hx:get S.env t= .r (.v (.int k m))):eLe S ρ G ((t,.r (.v (.int k p)))::l):=le_r h (by rw[e]) hx
theorem zjb {i j:Nat} (h:eLe S ρ G l) (e:ρ i=j) (hx:get S.env t= .ow j):eLe S ρ G ((t,.ow i)::l):=by
 subst e;refine⟨?_,h⟩;rw[show S.envF t= .ow (ρ i) from hx];exact .ow _
theorem zjc {i j o:Nat} (h:eLe S ρ G l) (e:ρ i=j) (hx:get S.env t= .pt j o):eLe S ρ G ((t,.pt i o)::l):=by
 subst e;refine⟨?_,h⟩;rw[show S.envF t= .pt (ρ i) o from hx];exact .pt _ _
theorem zdR:hLe S ρ G []:=trivial
theorem zdS {i T sz:Nat} {es es':List (List RV)} {l:List (Nat×Option Blk)} (h:hLe S ρ G l) (e:es=es') (hx:getH S.H (ρ i)=some (.row T sz es)):hLe S ρ G ((i,some (.row T sz es'))::l):=by
 subst e;exact⟨⟨_,hx,.row _ _ _⟩,h⟩
theorem zed {i T sz:Nat} {es es':List (List RV)} {l:List (Nat×Option Blk)} (h:hLe S ρ G l) (e:es=es') (hx:getH S.H (ρ i)=some (.full T sz es)):hLe S ρ G ((i,some (.full T sz es'))::l):=by
 subst e;exact⟨⟨_,hx,.full _ _ _⟩,h⟩
end
/-! ## What is to be known of types -/
def slTB (P:Program) (t e sz b:Nat):Bool:=
 (match P.underlying t with |some (.slice e')=>Nat.beq e' e|_=>false) && (match P.info? e with |some i=>Nat.beq i.size sz && Nat.beq i.bytes b && (match i.zero with |some z=>Nat.beq z.cells.size sz|none=>false)|none=>false) && Nat.blt 0 sz && Nat.ble b 4096
class SlT (P:Program) (t:Nat) (e sz b:outParam Nat):Prop where ok:slTB P t e sz b=true
def agTB (P:Program) (t n:Nat):Bool:=(match P.underlying t with |some d=>zb9 d|none=>false) && (match P.info? t with |some i=>Nat.beq i.size n|none=>false)
class AgT (P:Program) (t:Nat) (n:outParam Nat):Prop where ok:agTB P t n=true
def onTB (P:Program) (t:Nat):Bool:=(match P.underlying t with |some d=> !zb9 d|none=>false) && (match P.info? t with |some i=>Nat.beq i.size 1|none=>false)
class OnT (P:Program) (t:Nat):Prop where ok:onTB P t=true
def fdTB (P:Program) (t i o:Nat):Bool:=match P.underlying t with |some (.struct fs)=>(match fs[i]? with |some f=>Nat.beq f.offset o && (match P.info? f.type with |some j=>Nat.blt 0 j.size|none=>false)|none=>false)|_=>false
def zof (P:Program) (t i ft:Nat):Bool:=match P.underlying t with |some (.struct fs)=>(match fs[i]? with |some f=>Nat.beq f.type ft|none=>false)|_=>false
class FdT (P:Program) (t i:Nat) (o ft:outParam Nat):Prop where
 ok:fdTB P t i o=true
 ty:zof P t i ft=true
def arTB (P:Program) (t n e sz:Nat):Bool:=(match P.underlying t with |some (.array n' e')=>Nat.beq n' n && Nat.beq e' e|_=>false) && (match P.info? e with |some i=>Nat.beq i.size sz|none=>false)
class ArT (P:Program) (t:Nat) (n e sz:outParam Nat):Prop where ok:arTB P t n e sz=true
class ZrT (P:Program) (t:Nat) (cs:outParam (List Value)):Prop where
 ok:(P.info? t).map (fun i=>i.zero.map (·.cells))=some (some cs.toArray)
 one:cs.all (·.oneCell')=true
theorem SlT.und {P:Program} {t e sz b:Nat} [h:SlT P t e sz b]:P.underlying t=some (.slice e):=by
 have :=h.ok
 unfold slTB at this
 simp only[Bool.and_eq_true]at this
 have h1:=this.1.1.1
 split at h1
 ·rename_i e' he;rw[he,Nat.eq_of_beq_eq_true h1]
 ·cases h1
theorem SlT.pos {P:Program} {t e sz b:Nat} [h:SlT P t e sz b]:0<sz:=by
 have :=h.ok
 unfold slTB at this
 simp only[Bool.and_eq_true]at this
 exact za2.1 this.1.2
theorem SlT.inf {P:Program} {t e sz b:Nat} [h:SlT P t e sz b]:∃i z,P.info? e=some i∧i.zero=some z∧i.size=sz∧i.bytes=b∧z.cells.size=sz:=by
 have :=h.ok
 unfold slTB at this
 simp only[Bool.and_eq_true]at this
 have h1:=this.1.1.2
 split at h1
 ·rename_i i hi
  simp only[Bool.and_eq_true]at h1
  have h2:=h1.2
  split at h2
  ·rename_i z hz
   exact⟨i,z,hi,hz,Nat.eq_of_beq_eq_true h1.1.1,Nat.eq_of_beq_eq_true h1.1.2,Nat.eq_of_beq_eq_true h2⟩
  ·cases h2
 ·cases h1
theorem SlT.small {P:Program} {t e sz b:Nat} [h:SlT P t e sz b]:b≤4096:=by
 have :=h.ok
 unfold slTB at this
 simp only[Bool.and_eq_true]at this
 exact Nat.le_of_ble_eq_true this.2
theorem AgT.und {P:Program} {t n:Nat} [h:AgT P t n]:∃d,P.underlying t=some d∧zb9 d=true:=by
 have :=h.ok
 unfold agTB at this
 rw[Bool.and_eq_true]at this
 have h1:=this.1
 split at h1
 ·rename_i d hd;exact⟨d,hd,h1⟩
 ·cases h1
theorem AgT.size {P:Program} {t n:Nat} [h:AgT P t n]:(P.info? t).map (·.size)=some n:=by
 have :=h.ok
 unfold agTB at this
 rw[Bool.and_eq_true]at this
 have h1:=this.2
 split at h1
 ·rename_i i hi;rw[hi];exact congrArg some (Nat.eq_of_beq_eq_true h1)
 ·cases h1
theorem OnT.und {P:Program} {t:Nat} [h:OnT P t]:∃d,P.underlying t=some d∧zb9 d=false:=by
 have :=h.ok
 unfold onTB at this
 rw[Bool.and_eq_true]at this
 have h1:=this.1
 split at h1
 ·rename_i d hd;exact⟨d,hd,by simpa using h1⟩
 ·cases h1
theorem OnT.size {P:Program} {t:Nat} [h:OnT P t]:(P.info? t).map (·.size)=some 1:=by
 have :=h.ok
 unfold onTB at this
 rw[Bool.and_eq_true]at this
 have h1:=this.2
 split at h1
 ·rename_i i hi;rw[hi];exact congrArg some (Nat.eq_of_beq_eq_true h1)
 ·cases h1
theorem FdT.fld {P:Program} {t i o ft:Nat} [h:FdT P t i o ft]:∃fs f,P.underlying t=some (.struct fs)∧fs[i]? =some f∧f.offset=o∧f.type=ft∧∃j,P.info? f.type=some j∧j.size≠0:=by
 have h1:=h.ok
 have h2:=h.ty
 unfold fdTB at h1
 unfold zof at h2
 split at h1
 ·rename_i fs hfs
  rw[hfs]at h2
  simp only at h2
  split at h1
  ·rename_i f hf
   rw[hf]at h2
   simp only at h2
   rw[Bool.and_eq_true]at h1
   have h3:=h1.2
   split at h3
   ·rename_i j hj
    exact⟨fs,f,hfs,hf,Nat.eq_of_beq_eq_true h1.1,Nat.eq_of_beq_eq_true h2,j,hj,by have :=za2.1 h3;omega⟩
   ·cases h3
  ·cases h1
 ·cases h1
theorem ArT.und {P:Program} {t n e sz:Nat} [h:ArT P t n e sz]:P.underlying t=some (.array n e)∧(P.info? e).map (·.size)=some sz:=by
 have :=h.ok
 unfold arTB at this
 rw[Bool.and_eq_true]at this
 have h1:=this.1
 have h2:=this.2
 constructor
 ·split at h1
  ·rename_i n' e' he
   rw[Bool.and_eq_true]at h1
   rw[he,Nat.eq_of_beq_eq_true h1.1,Nat.eq_of_beq_eq_true h1.2]
  ·cases h1
 ·split at h2
  ·rename_i i hi;rw[hi];exact congrArg some (Nat.eq_of_beq_eq_true h2)
  ·cases h2
theorem znM {P:Program} {t:TypeId} {d:TypeDesc} {b:Bool} (hu:P.underlying t=some d) (hd:zb9 d=b) (w:World):(isAgg t).run P w= .ok b w:=by
 simp only[isAgg,Sem.run_bind,run_underlying hu,Result.andThen_ok]
 cases d<;>simp_all [zb9]
section
variable {P:Program} {env:Nat→AV} {H:Nat→Option Blk} {d:Option Tmp} {ty:TypeId} {pos:String} {af:Array Edge} {g:Option (Nat×Bool)}
variable {t:TypeId} {x y:Operand}
theorem zd0 {xs:List AV} {k:Nat} {out:AV} (hx:evA env x= .tu xs) (ho:xs[k]? =some out):zav P ⟨d,.extract x k,ty,pos,af,g⟩ env H [] out:=by
 refine⟨fun i b h=>by simp at h,fun i hi=>zbZ hx i (by rw[AV.ids];exact za5 (List.mem_of_getElem? ho) hi),fun a w Z M hr _=>?_⟩
 have h1:=hr x (by simp[Op.operands])
 rw[hx,AV.rep]at h1
 obtain⟨us,h2,h3⟩:=h1
 obtain⟨u,h4,h5⟩:=AV.reps_get h3 ho
 refine⟨u,?_,h5⟩
 have h4':us[k]? =some u:=by simpa using h4
 simp only[execOp,h2,Instr.extract,h4',Sem.run_bind,Sem.run_pure,Result.andThen_ok]
theorem zdG {P:Program} {t i o ft:Nat} [FdT P t i o ft] (ad:Addr) (w:World):(Instr.fieldAt t (.pointer (some ad)) i).run P w= .ok (.pointer (some (ad.add o))) w:=by
 obtain⟨fs,f,h1,h2,h3,h4,j,h5,h6⟩:=FdT.fld (P:=P) (t:=t) (i:=i) (o:=o) (ft:=ft)
 have hs:(sizeOf f.type).run P w= .ok j.size w:=by simp[sizeOf,typeInfo,h5]
 simp only[Instr.fieldAt,Sem.run_bind,run_underlying h1,Result.andThen_ok,h2,Instr.sureAddr,Sem.run_pure,fieldPlace,hs,if_neg h6,h3]
theorem zjj {i o ft:Nat} {cs:List RV} [FdT P t i o ft] (hx:evA env x= .rp cs):zav P ⟨d,.fieldAddr t x i,ty,pos,af,g⟩ env H [] (.rp (cs.drop o)):=by
 refine⟨fun i b h=>by simp at h,fun i hi=>by simp[AV.ids]at hi,fun a w Z M hr _=>?_⟩
 have h1:=hr x (by simp[Op.operands])
 rw[hx,AV.rep]at h1
 obtain⟨ad,h2,h3,h4,h5⟩:=h1
 refine⟨.pointer (some (ad.add o)),?_,?_⟩
 ·simp only[execOp,h2,Sem.run_bind,zdG,Result.andThen_ok,Sem.run_pure]
 ·rw[AV.rep]
  refine⟨_,rfl,by rw[add_block];exact h3,by rw[add_block];exact h4,?_⟩
  rw[RV.row_add,Nat.add_comm]
  exact RV.row_drop h5 o
theorem add_mid (b o k:Nat):(⟨b,o,none⟩:Addr).add k=⟨b,o+k,none⟩:=by unfold Addr.add;split <;>simp_all
theorem zji {i o ft j q:Nat} [FdT P t i o ft] (hx:evA env x= .pt j q):zav P ⟨d,.fieldAddr t x i,ty,pos,af,g⟩ env H [] (.pt j (q+o)):=by
 refine⟨fun i b h=>by simp at h,fun i hi=>zbZ hx i (by simpa[AV.ids]using hi),fun a w Z M hr _=>?_⟩
 have h1:=hr x (by simp[Op.operands])
 rw[hx,AV.rep]at h1
 obtain⟨b,h2,h3⟩:=h1
 refine⟨.pointer (some ⟨b,q+o,none⟩),?_,?_⟩
 ·simp only[execOp,h3,Sem.run_bind,zdG,Result.andThen_ok,Sem.run_pure,add_mid]
 ·rw[AV.rep];exact⟨b,h2,rfl⟩
theorem zjh {i o ft j sz k q:Nat} [FdT P t i o ft] (hx:evA env x= .pe j sz k q):zav P ⟨d,.fieldAddr t x i,ty,pos,af,g⟩ env H [] (.pe j sz k (q+o)):=by
 refine⟨fun i b h=>by simp at h,fun i hi=>zbZ hx i (by simpa[AV.ids]using hi),fun a w Z M hr _=>?_⟩
 have h1:=hr x (by simp[Op.operands])
 rw[hx,AV.rep]at h1
 obtain⟨b,h2,h3⟩:=h1
 refine⟨.pointer (some ⟨b,k*sz+(q+o),none⟩),?_,?_⟩
 ·simp only[execOp,h3,Sem.run_bind,zdG,Result.andThen_ok,Sem.run_pure,add_mid,Nat.add_assoc]
 ·rw[AV.rep];exact⟨b,h2,rfl⟩
/-! ### Loads out of variables -/
theorem zeM {Z:Nat→Value} {M:Nat→Prop} {w:World} {j o T:Nat} {cs:List AV} {v:Value} (hh:held Z M w j (.var T cs)) (hp:∃b,blk (Z j)=some b∧v= .pointer (some ⟨b,o,none⟩)):
  ∃b us,Z j= .pointer (some ⟨b,0,none⟩)∧v= .pointer (some ⟨b,o,none⟩)∧w.heap[b]? =some (.cells us T (0,0))∧AV.reps Z M w cs us.toList∧us.all (·.oneCell')=true:=by
 obtain⟨b,us,h1,h2⟩:=hh
 obtain⟨b',h3,h4⟩:=hp
 rw[h1]at h3
 simp only[blk,Option.some.injEq]at h3
 subst h3
 exact⟨b,us,h1,h4,h2⟩
theorem zbC {j o T:Nat} {cs:List AV} {c:AV} [OnT P t] (hx:evA env x= .pt j o) (hH:H j=some (.var T cs)) (hc:cs[o]? =some c):zav P ⟨d,.load t x,ty,pos,af,g⟩ env H [(j,.var T cs)] c:=by
 refine⟨fun i b h=>?_,fun i hi=>.inr ⟨j,.var T cs,by simp,.inr (za5 (List.mem_of_getElem? hc) hi)⟩,fun a w Z M hr hh=>?_⟩
 ·simp only[List.mem_cons,List.not_mem_nil,or_false]at h
  obtain⟨rfl,rfl⟩:=h
  exact hH
 ·have h1:=hr x (by simp[Op.operands])
  rw[hx,AV.rep]at h1
  obtain⟨b,us,h2,h3,h4,h5,h6⟩:=zeM (hh j (.var T cs) (by simp)) h1
  obtain⟨u,h7,h8⟩:=AV.reps_get h5 hc
  obtain⟨D,hu,hD⟩:=OnT.und (P:=P) (t:=t)
  refine⟨u,?_,h8⟩
  have hcell:w.cell? ⟨b,o,none⟩=some u:=by rw[cell_of_row w b o us T (0,0) h4];simpa using h7
  simp only[execOp,h3,Instr.loadAt,Instr.sureAddr,Sem.run_bind,Sem.run_pure,Result.andThen_ok,zbs w _ t D u hu hD hcell]
theorem zlA:∀{cs:List AV} {i o n:Nat},i∈AV.idss ((cs.drop o).take n)→i∈AV.idss cs:=by
 have h1:∀(cs:List AV) (i:Nat),i∈AV.idss cs↔∃c∈cs,i∈c.ids:=by
  intro cs i
  induction cs with
  |nil=>simp[AV.idss]
  |cons c cs ih=>simp[AV.idss,ih]
 intro cs i o n h
 obtain⟨c,hc,hi⟩:=(h1 _ _).1 h
 exact(h1 _ _).2 ⟨c,List.mem_of_mem_drop (List.mem_of_mem_take hc),hi⟩
theorem zcR {Z:Nat→Value} {B:Nat→Prop} {w:World}:∀{cs:List AV} {us:List Value} (k:Nat),AV.reps Z B w cs us→AV.reps Z B w (cs.drop k) (us.drop k)
 |cs,us,0,h=>h
 |[],us,k+1,h=>by rw[AV.reps]at h;subst h;simpa using(show AV.reps Z B w [] [] by rw[AV.reps])
 |c::cs,us,k+1,h=>by rw[AV.reps]at h;obtain⟨u,us',rfl,_,h2⟩:=h;simpa using zcR k h2
theorem zcS {Z:Nat→Value} {B:Nat→Prop} {w:World}:∀{cs:List AV} {us:List Value} (k:Nat),AV.reps Z B w cs us→AV.reps Z B w (cs.take k) (us.take k)
 |cs,us,0,h=>by simpa using(show AV.reps Z B w [] [] by rw[AV.reps])
 |[],us,k+1,h=>by rw[AV.reps]at h;subst h;simpa using(show AV.reps Z B w [] [] by rw[AV.reps])
 |c::cs,us,k+1,h=>by
  rw[AV.reps]at h;obtain⟨u,us',rfl,h1,h2⟩:=h
  rw[List.take_succ_cons,List.take_succ_cons,AV.reps]
  exact⟨_,_,rfl,h1,zcS k h2⟩
theorem zb5 {j o T n:Nat} {cs:List AV} [AgT P t n] (hx:evA env x= .pt j o) (hH:H j=some (.var T cs)) (hn:o+n≤cs.length):zav P ⟨d,.load t x,ty,pos,af,g⟩ env H [(j,.var T cs)] (.ag ((cs.drop o).take n)):=by
 refine⟨fun i b h=>?_,fun i hi=>.inr ⟨j,.var T cs,by simp,.inr (zlA (by rwa [AV.ids]at hi))⟩,fun a w Z M hr hh=>?_⟩
 ·simp only[List.mem_cons,List.not_mem_nil,or_false]at h
  obtain⟨rfl,rfl⟩:=h
  exact hH
 ·have h1:=hr x (by simp[Op.operands])
  rw[hx,AV.rep]at h1
  obtain⟨b,us,h2,h3,h4,h5,h6⟩:=zeM (hh j (.var T cs) (by simp)) h1
  obtain⟨D,hu,hD⟩:=AgT.und (P:=P) (t:=t) (n:=n)
  have hlen:=AV.reps_len h5
  have h7:=zcS n (zcR o h5)
  refine⟨.agg ((us.toList.drop o).take n).toArray,?_,by rw[AV.rep];exact⟨_,rfl,h7⟩⟩
  have hl:(loadCells ⟨b,o,none⟩ n).run P w= .ok ((us.toList.drop o).take n).toArray w:=by
   have :=run_loadCells_list (P:=P) w ⟨b,o,none⟩ ((us.toList.drop o).take n) (fun k v hv=>by
    rw[add_mid,cell_of_row w b (o+k) us T (0,0) h4]
    rw[List.getElem?_take]at hv
    split at hv
    ·rw[List.getElem?_drop]at hv;simpa using hv
    ·cases hv)
   rwa [show((us.toList.drop o).take n).length=n by rw[List.length_take,List.length_drop];omega]at this
  simp only[execOp,h3,Instr.loadAt,Instr.sureAddr,loadVar,Sem.run_bind,Sem.run_pure,Result.andThen_ok,znM hu hD,run_sizeOf AgT.size,if_true,hl]
end
/-! ## New blocks -/
section
variable {P:Program} {L:Ln} {N:Nat} {ops:Array Oper} {chk:List (Nat×Sp)→Bool} {Q:St→Prop} {l:List Oper} {E:List (Nat×AV)} {H:List (Nat×Option Blk)} {n:Nat} {tr:List (Nat×Sp)}
variable {d:Nat} {ty:TypeId} {pos:String} {af:Array Edge} {g:Option (Nat×Bool)} {t:TypeId} {x y:Operand}
theorem zaH {α:Type} {x:α} {p:Prop} (h:x∈([]:List α)):p:=by cases h
structure ze2 (P:Program) (o:Oper) (env:Nat→AV) (H:Nat→Option Blk) (rd:List (Nat×Blk)) (k:Nat) (out:AV) (b:Blk):Prop where
 rdH:∀i b,(i,b)∈rd→H i=some b
 outs:out.ids=[k]
 ids:∀i∈b.ids,(∃t,i∈(env t).ids)∨∃j b',(j,b')∈rd∧(i=j∨i∈b'.ids)
 run:∀(a:Act) (w:World) (Z:Nat→Value) (M:Nat→Prop),(∀x,M x→x<w.heap.size)→(∀x∈o.op.operands.toList,(evA env x).rep Z M w (a.eval x))→(∀i b,(i,b)∈rd→held Z M w i b)→
  ∃v z w',(execOp a.eval o).run P w= .ok (.value v) w'∧Below w.heap.size w w'∧(∀q,blk z=some q→w.heap.size≤q)∧
   ∀Z',Z' k=z→(∀i,i≠k→Z' i=Z i)→out.rep Z' (fun q=>M q∨blk z=some q) w' v∧((∀i∈b.ids,i≠k)→held Z' (fun q=>M q∨blk z=some q) w' k b)
theorem zak {op:Op} {rd:List (Nat×Blk)} {out:AV} {b:Blk} (hd:Nat.blt d N=true) (hg:za3 ops (get E) ⟨some d,op,ty,pos,af,g⟩ true) (hp:ze2 P ⟨some d,op,ty,pos,af,g⟩ (get E) (getH H) rd n out b)
  (hid:(b.ids.all fun i=> !Nat.beq i n)=true)
  (h:wpA P L N ops chk Q l ⟨(d,out)::E,(n,some b)::H,n+1⟩ ((n,⟨true,rd,out,[],[b]⟩)::tr)):wpA P L N ops chk Q (⟨some d,op,ty,pos,af,g⟩::l) ⟨E,H,n⟩ tr:=by
 have hid':∀i∈b.ids,i≠n:=fun i hi e=>by
  have :=List.all_eq_true.1 hid i hi
  subst e
  simp at this
 refine⟨⟨true,rd,out,[],[b]⟩,⟨fun x hx=>?_,hg,fun _ a w Z M hM hx hr hdist=>?_,(fun h=>by cases h),fun D hD hDH hf=>?_⟩,h⟩
 ·injection hx with hx;subst hx;exact za2.1 hd
 ·obtain⟨v,z,w',h1,h2,h3,h4⟩:=hp.run a w Z M hM hx (fun i b hb=>(hr i b hb).1)
  have hz1:(fun i=>if i=n then z else Z i) n=z:=by simp
  obtain⟨h5,h6⟩:=h4 (fun i=>if i=n then z else Z i) hz1 (fun i hi=>by simp[hi])
  have hN:∀q,New n ⟨true,rd,out,[],[b]⟩ (fun i=>if i=n then z else Z i) M q→M q∨blk z=some q:=by
   rintro q (h0|⟨j,hj,hq⟩)
   ·exact .inl h0
   ·have :j=0:=by simpa using hj
    subst this
    exact .inr (by simpa using hq)
  refine zc2 h1 ⟨fun i=>if i=n then z else Z i,fun i hi=>?_,AV.rep_mono (Upto.refl _) (fun q _ hq=>hN q hq) _ (fun _ _=>rfl) _ h5,fun i b h=>zaH h,fun j c hj=>?_,fun j j' q hj hj' hne=>?_,fun j q hj hq=>.inl ?_,(Upto.of_below h2)⟩
  ·have :i≠n:=by simp at hi;omega
   simp[this]
  ·have hj0:j=0:=by
    cases j with
    |zero=>rfl
    |succ j=>simp at hj
   subst hj0
   have :c=b:=by simpa using hj.symm
   subst this
   exact(h6 hid').anti fun q _ hq=>hN q hq
  ·simp at hj hj';omega
  ·have :j=0:=by simpa using hj
   subst this
   exact h3 q (by simpa using hq)
 ·refine⟨hp.rdH,fun i o h=>zaH h,fun i o h=>zaH h,fun i h=>zaH h,hf,fun i hi=>.inr ?_,fun c hc i hi=>.inl ?_,fun i b h=>zaH h⟩
  ·rw[show(⟨true,rd,out,[],[b]⟩:Sp).out=out from rfl,hp.outs]at hi
   simp at hi;subst hi;simp
  ·have :c=b:=by simpa using hc
   subst this
   rcases hp.ids i hi with⟨t,ht⟩|⟨j,b',hj,hij⟩
   ·exact hD t i ht
   ·have :=hDH j b' (hp.rdH j b' hj)
    rcases hij with rfl|hij
    ·exact this.1
    ·exact this.2 i hij
theorem zdP (w:World) (o:Obj):(w.alloc o).heap[w.heap.size]? =some o:=heap_alloc_new _ _
theorem zez {Z:Nat→Value} {B:Nat→Prop} {w:World}:∀(us:List Value),AV.reps Z B w (us.map fun u=>.r (.v u)) us
 |[]=>by rw[List.map_nil,AV.reps]
 |u::us=>by rw[List.map_cons,AV.reps];exact⟨u,us,rfl,by rw[AV.rep,RV.rep],zez us⟩
theorem zee:∀(us:List Value),AV.idss (us.map fun u=>.r (.v u))=[]
 |[]=>rfl
 |u::us=>by rw[List.map_cons,AV.idss,zee us];rfl
theorem zem {cs:List Value} [hz:ZrT P t cs] {o:Option Tmp} {env:Nat→AV} {HF:Nat→Option Blk} {k:Nat}:ze2 P ⟨o,.alloc t,ty,pos,af,g⟩ env HF [] k (.pt k 0) (.var t (cs.map fun u=>.r (.v u))):=by
 refine⟨fun i b h=>zaH h,by simp[AV.ids],fun i hi=>by rw[Blk.ids,zee]at hi;exact zaH hi,fun a w Z M hM hx _=>?_⟩
 have h1:=hz.ok
 cases hi:P.info? t with
 |none=>rw[hi]at h1;cases h1
 |some i=>
  rw[hi]at h1
  simp only[Option.map_some,Option.some.injEq]at h1
  cases hzz:i.zero with
  |none=>rw[hzz]at h1;cases h1
  |some z=>
   rw[hzz]at h1
   simp only[Option.map_some,Option.some.injEq]at h1
   refine⟨.pointer (some ⟨w.heap.size,0,none⟩),.pointer (some ⟨w.heap.size,0,none⟩),w.alloc (.cells z.cells t),?_,(Below.refl _ _).alloc (Nat.le_refl _) _,fun q hq=>by simp[blk]at hq;omega,fun Z' hz' _=>⟨?_,fun _=>?_⟩⟩
   ·simp[execOp,Instr.alloc,zeroValue,typeInfo,hi,hzz,newVar,newRow]
   ·rw[AV.rep,hz'];exact⟨_,rfl,rfl⟩
   ·refine⟨w.heap.size,z.cells,hz',zdP _ _,?_,?_⟩
    ·rw[h1];exact zez cs
    ·rw[h1]
     have :=hz.one
     simpa using this
def cellsA:AV→List AV
 |.ag cs=>cs
 |x=>[x]
def valB:AV→Bool
 |.ag _=>true
 |.r (.v x)=>x.oneCell'
 |.r _=>true
 |.pt _ _=>true
 |.pe _ _ _ _=>true
 |.rp _=>true
 |_=>false
theorem zbV {Z:Nat→Value} {B:Nat→Prop} {w:World} {x:AV} {v:Value} (hx:x.rep Z B w v) (h:valB x=true):AV.reps Z B w (cellsA x) v.cells.toList∧((∀cs,x≠ .ag cs)→v.cells= #[v]∧v.oneCell'=true):=by
 have one:∀c:AV,c.rep Z B w v→v.cells= #[v]→AV.reps Z B w [c] v.cells.toList:=fun c hc he=>by
  rw[he,AV.reps];exact⟨v,[],rfl,hc,by rw[AV.reps]⟩
 cases x with
 |ag cs=>rw[AV.rep]at hx;obtain⟨us,rfl,h2⟩:=hx;exact⟨h2,fun h=>absurd rfl (h cs)⟩
 |r c=>
  cases c with
  |v x=>
   have hx':=hx
   rw[AV.rep,RV.rep]at hx
   subst hx
   have he:v.cells= #[v]:=by simp only[valB]at h;cases v<;>first|rfl|(simp[Value.oneCell']at h)
   exact⟨one _ hx' he,fun _=>⟨he,h⟩⟩
  |sl sz es=>
   have hx':=hx
   rw[AV.rep,RV.rep]at hx
   obtain⟨A,c,rfl,_⟩:=hx
   exact⟨one _ hx' rfl,fun _=>⟨rfl,rfl⟩⟩
 |rp cs=>have hx':=hx;rw[AV.rep]at hx;obtain⟨ad,rfl,_⟩:=hx;exact⟨one _ hx' rfl,fun _=>⟨rfl,rfl⟩⟩
 |pt i o=>have hx':=hx;rw[AV.rep]at hx;obtain⟨b,_,rfl⟩:=hx;exact⟨one _ hx' rfl,fun _=>⟨rfl,rfl⟩⟩
 |pe i sz k f=>have hx':=hx;rw[AV.rep]at hx;obtain⟨b,_,rfl⟩:=hx;exact⟨one _ hx' rfl,fun _=>⟨rfl,rfl⟩⟩
 |ow i=>cases h
 |tu xs=>cases h
 |fr _ _ _=>cases h
 |na=>cases h
 |ol _ _=>cases h
 |sv _ _=>cases h
 |so _ _ _ _=>cases h
 |cl _ _=>cases h
def zgh:List AV→Bool
 |[]=>true
 |.ag _::_=>false
 |c::cs=>valB c && zgh cs
theorem zgi {Z:Nat→Value} {B:Nat→Prop} {w:World}:∀{cs:List AV} {us:List Value},zgh cs=true→AV.reps Z B w cs us→us.all (·.oneCell')=true
 |[],us,_,h=>by rw[AV.reps]at h;subst h;rfl
 |c::cs,us,h,hr=>by
  rw[AV.reps]at hr
  obtain⟨u,us',rfl,h1,h2⟩:=hr
  have hc:valB c=true∧zgh cs=true∧∀ds,c≠ .ag ds:=by
   cases c<;>simp_all [zgh]
  rw[List.all_cons,((zbV h1 hc.1).2 hc.2.2).2,zgi hc.2.1 h2]
  rfl
theorem zec {x:AV} (h1:zgh (cellsA x)=true):valB x=true:=by
 cases x<;>simp_all [cellsA,zgh,valB]
theorem ze3 (us:Array Value):us.all (·.oneCell')=us.toList.all (·.oneCell'):=by simp
theorem zc4 {x:AV}:∀i,i∈AV.idss (cellsA x)→i∈x.ids:=by
 intro i hi
 cases x<;>simp_all [cellsA,AV.idss,AV.ids]
theorem zbO {o:Option Tmp} {E:List (Nat×AV)} {HF:Nat→Option Blk} {k:Nat} {x:Operand} {a:AV} (hx:evA (get E) x=a) (h1:zgh (cellsA a)=true):ze2 P ⟨o,.box t x,ty,pos,af,g⟩ (get E) HF [] k (.pt k 0) (.var t (cellsA a)):=by
 refine⟨fun i b h=>zaH h,by simp[AV.ids],fun i hi=>?_,fun ac w Z M hM hr _=>?_⟩
 ·rcases zbZ hx i (zc4 i hi)with h|⟨_,_,h,_⟩
  ·exact .inl h
  ·exact zaH h
 ·have h2:=hr x (by simp[Op.operands])
  rw[hx]at h2
  have hv:=zec h1
  refine⟨.pointer (some ⟨w.heap.size,0,none⟩),.pointer (some ⟨w.heap.size,0,none⟩),w.alloc (.cells (ac.eval x).cells t),?_,(Below.refl _ _).alloc (Nat.le_refl _) _,fun q hq=>by simp[blk]at hq;omega,fun Z' hz' hzo=>⟨?_,fun hids=>?_⟩⟩
  ·simp[execOp,Instr.box,newVar,newRow]
  ·simp only[AV.rep,hz'];exact⟨_,rfl,rfl⟩
  ·have h3:a.rep Z' (fun q=>M q∨blk (.pointer (some ⟨w.heap.size,0,none⟩))=some q) (w.alloc (.cells (ac.eval x).cells t)) (ac.eval x):=by
    refine AV.rep_mono (Upto.alloc (M:=M) w _) (fun q hq hb=>?_) a (fun i hi=>hzo i (hids i ?_)) _ h2
    ·rcases hb with hb|hb
     ·exact hb
     ·simp[blk]at hb;omega
    ·cases a<;>simp_all [cellsA,AV.idss,AV.ids,Blk.ids]
   obtain⟨h4,_⟩:=zbV h3 hv
   exact⟨w.heap.size,_,hz',zdP _ _,h4,by rw[ze3];exact zgi h1 h4⟩
end
def setA {α:Type} (cs:List α) (o:Nat) (ds:List α):List α:=cs.take o++ds++cs.drop (o+ds.length)
theorem zd4 {α:Type} (cs:List α) (o:Nat) (ds:List α) (h:o+ds.length≤cs.length):(setA cs o ds).length=cs.length:=by simp[setA];omega
theorem zmd {α:Type} (cs:List α) (o:Nat):setA cs o []=cs:=by simp[setA]
theorem zkH {α:Type} (cs:List α) (o:Nat) (d:α) (ds:List α) (h:o<cs.length):setA (cs.set o d) (o+1) ds=setA cs o (d::ds):=by
 unfold setA
 rw[List.take_set,List.drop_set,if_pos (by omega)]
 have e1:(cs.take (o+1)).set o d=cs.take o++[d]:=by
  apply List.ext_getElem?
  intro k
  rw[List.getElem?_set]
  by_cases hk:o=k
  ·subst hk
   rw[if_pos rfl,List.length_take,if_pos (by omega),List.getElem?_append_right (by rw[List.length_take];omega),List.length_take,show o-min o cs.length=0 by omega]
   rfl
  ·rw[if_neg hk]
   rcases Nat.lt_or_ge k o with h1|h1
   ·rw[List.getElem?_append_left (by simp;omega),List.getElem?_take,List.getElem?_take,if_pos (by omega),if_pos h1]
   ·rw[List.getElem?_append_right (by simp;omega),List.getElem?_take,if_neg (by omega)]
    simp
    omega
 rw[e1]
 simp[Nat.add_assoc,Nat.add_comm 1]
theorem zcs {P:Program} {b o T:Nat}:∀(vs:List Value) (i:Nat) (us:Array Value) (w:World),w.heap[b]? =some (.cells us T (0,0))→o+i+vs.length≤us.size→vs.all (·.oneCell')=true→
  ∃w' us',(storeCells ⟨b,o,none⟩ vs i).run P w= .ok () w'∧w'.heap[b]? =some (.cells us' T (0,0))∧us'.toList=setA us.toList (o+i) vs∧Upto (fun q=>q=b) w w'
 |[],i,us,w,hg,hl,h1=>⟨w,us,rfl,hg,(zmd _ _).symm,Upto.refl _⟩
 |v::vs,i,us,w,hg,hl,h1=>by
  rw[List.all_cons,Bool.and_eq_true]at h1
  simp only[List.length_cons]at hl
  have hc:w.cell? ⟨b,o+i,none⟩=some us[o+i]:=by rw[cell_of_row w b (o+i) us T (0,0) hg];simp
  have hf:w.frozen? ⟨b,o+i,none⟩=false:=frozen_of_row w b (o+i) us T hg
  have hst:(store (⟨b,o+i,none⟩:Addr) v).run P w= .ok () (w.setCell ⟨b,o+i,none⟩ v):=by
   rw[run_store P w _ v .plain h1.1]
   simp[stored,hc,hf]
  have hg2:=heap_setCell_same w b (o+i) us T v hg
  obtain⟨w',us',h2,h3,h4,h5⟩:=zcs (P:=P) (b:=b) (o:=o) (T:=T) vs (i+1) (us.setIfInBounds (o+i) v) _ hg2 (by simp;omega) h1.2
  refine⟨w',us',?_,h3,?_,?_⟩
  ·rw[storeCells]
   simp only[add_mid,Sem.run_bind,hst,Result.andThen_ok]
   exact h2
  ·rw[h4,Array.toList_setIfInBounds,show o+(i+1)=o+i+1 by omega]
   exact zkH _ _ _ _ (by simp;omega)
  ·refine Upto.trans (w:=w.setCell ⟨b,o+i,none⟩ v) ⟨rfl,rfl,rfl,by simp[World.setCell],fun k hk hne=>?_⟩ h5
   exact Below.heap_setCell w ⟨b,o+i,none⟩ v k hne
theorem zbd {Z:Nat→Value} {B:Nat→Prop} {w:World}:∀{cs ds:List AV} {us vs:List Value},AV.reps Z B w cs us→AV.reps Z B w ds vs→AV.reps Z B w (cs++ds) (us++vs)
 |[],ds,us,vs,h,k=>by rw[AV.reps]at h;subst h;simpa using k
 |c::cs,ds,us,vs,h,k=>by
  rw[AV.reps]at h
  obtain⟨u,us',rfl,h1,h2⟩:=h
  rw[List.cons_append,AV.reps]
  exact⟨u,us'++vs,rfl,h1,zbd h2 k⟩
theorem zb8 {cs:List AV} {i:Nat}:i∈AV.idss cs↔∃c∈cs,i∈c.ids:=by
 induction cs with
 |nil=>simp[AV.idss]
 |cons c cs ih=>simp[AV.idss,ih]
theorem zlM {Z:Nat→Value} {B:Nat→Prop} {w:World} {a:AV} {v:Value} (h1:zgh (cellsA a)=true) (hv:a.rep Z B w v):v.cells.toList.all (·.oneCell')=true:=zgi h1 (zbV hv (zec h1)).1
section
variable {P:Program} {L:Ln} {N:Nat} {ops:Array Oper} {chk:List (Nat×Sp)→Bool} {Q:St→Prop} {l:List Oper} {E:List (Nat×AV)} {H:List (Nat×Option Blk)} {n:Nat} {tr:List (Nat×Sp)}
variable {d:Nat} {ty:TypeId} {pos:String} {af:Array Edge} {g:Option (Nat×Bool)} {t:TypeId} {x y:Operand}
theorem zaP {j o T m:Nat} {cs:List AV} {a:AV} (hx:evA (get E) x= .pt j o) (hy:evA (get E) y=a) (hH:getH H j=some (.var T cs)) (h1:zgh (cellsA a)=true) (hs:(P.info? t).map (·.size)=some m) (hm:(cellsA a).length=m) (hn:Nat.ble (o+m) cs.length=true)
  (hg:za3 ops (get E) ⟨none,.store t x y,ty,pos,af,g⟩ true)
  (h:wpA P L N ops chk Q l ⟨E,(j,some (.var T (setA cs o (cellsA a))))::H,n⟩ ((n,⟨true,[(j,.var T cs)],.r (.v undef),[(j,some (.var T (setA cs o (cellsA a))))],[]⟩)::tr)):
  wpA P L N ops chk Q (⟨none,.store t x y,ty,pos,af,g⟩::l) ⟨E,H,n⟩ tr:=by
 have hn:=zbv.1 hn
 refine⟨⟨true,[(j,.var T cs)],.r (.v undef),[(j,some (.var T (setA cs o (cellsA a))))],[]⟩,⟨(fun x hx=>by cases hx),hg,fun _ ac w Z M hM hr hh hdist=>?_,(fun h=>by cases h),fun D hD hDH hf=>?_⟩,h⟩
 ·have hxr:(evA (get E) x).rep Z M w (ac.eval x):=hr x (by simp[Op.operands])
  have hyr:(evA (get E) y).rep Z M w (ac.eval y):=hr y (by simp[Op.operands])
  rw[hx,AV.rep]at hxr
  rw[hy]at hyr
  obtain⟨hheld,hMj⟩:=hh j (.var T cs) (by simp)
  obtain⟨b,us,h2,h3,h4,h5,h6⟩:=zeM hheld hxr
  have hcr:=(zbV hyr (zec h1)).1
  have hlen:=AV.reps_len h5
  have hlen2:=AV.reps_len hcr
  simp only[Array.length_toList]at hlen hlen2
  have hall:=zlM h1 hyr
  obtain⟨w',us',h7,h8,h9,h10⟩:=zcs (P:=P) (b:=b) (o:=o) (T:=T) (ac.eval y).cells.toList 0 us w h4 (by simp;omega) hall
  have hsz:(sizeOf t).run P w= .ok (ac.eval y).cells.size w:=by rw[run_sizeOf hs];congr 1;omega
  have hex:(execOp ac.eval ⟨none,.store t x y,ty,pos,af,g⟩).run P w= .ok .skip w':=by
   have :(storeVar t ⟨b,o,none⟩ (ac.eval y)).run P w= .ok () w':=by
    simp only[storeVar,Sem.run_bind,hsz,Result.andThen_ok]
    simp[h7]
   simp only[execOp,h3,Instr.storeAt,Instr.sureAddr,Sem.run_bind,Sem.run_pure,Result.andThen_ok,this]
  have hU:Upto M w w':=h10.mono fun q _ hq=>by subst hq;exact hMj _ (by rw[h2];rfl)
  have hNew:∀q,New n ⟨true,[(j,.var T cs)],.r (.v undef),[(j,some (.var T (setA cs o (cellsA a))))],[]⟩ Z M q→M q:=fun q hq=>zfj rfl hq
  refine zfd hex ⟨Z,fun _ _=>rfl,by rw[AV.rep,RV.rep],fun i c hi=>?_,fun j b h=>by simp at h,fun j j' x h=>by simp at h,fun j x h=>by simp at h,?_⟩
  ·simp only[List.mem_cons,List.not_mem_nil,or_false,Prod.mk.injEq,Option.some.injEq]at hi
   obtain⟨rfl,rfl⟩:=hi
   refine⟨b,us',h2,h8,?_,?_⟩
   ·rw[h9,Nat.add_zero]
    have m1:=AV.reps_mono hU (fun q _ hq=>hNew q hq) cs (fun _ _=>rfl) _ h5
    have m2:=AV.reps_mono hU (fun q _ hq=>hNew q hq) (cellsA a) (fun _ _=>rfl) _ hcr
    unfold setA
    rw[show(ac.eval y).cells.toList.length=(cellsA a).length by simp;omega]
    exact zbd (zbd (zcS o m1) m2) (zcR _ m1)
   ·rw[ze3,h9]
    unfold setA
    rw[ze3]at h6
    rw[List.all_append,List.all_append,hall]
    simp only[List.all_eq_true]at h6 ⊢
    simp only[Bool.and_true,Bool.and_eq_true,List.all_eq_true]
    exact⟨fun u hu=>h6 u (List.mem_of_mem_take hu),fun u hu=>h6 u (List.mem_of_mem_drop hu)⟩
  ·refine h10.mono fun q _ hq=>?_
   subst hq
   exact⟨j,some (.var T (setA cs o (cellsA a))),by simp,by rw[h2];rfl⟩
 ·refine⟨fun i b hb=>?_,fun i o' ho=>?_,fun i o' ho=>?_,fun i ho=>?_,hf,fun i hi=>by simp[AV.ids]at hi,fun b h=>by simp at h,fun i b hb i' hi'=>.inl ?_⟩
  ·simp only[List.mem_cons,List.not_mem_nil,or_false,Prod.mk.injEq]at hb
   obtain⟨rfl,rfl⟩:=hb
   exact hH
  ·simp only[List.mem_cons,List.not_mem_nil,or_false,Prod.mk.injEq]at ho
   obtain⟨rfl,rfl⟩:=ho
   exact⟨.var T cs,by simp⟩
  ·simp only[List.mem_cons,List.not_mem_nil,or_false,Prod.mk.injEq]at ho
   obtain⟨rfl,rfl⟩:=ho
   exact by simp[List.lookup_cons]
  ·simp at ho
  ·simp only[List.mem_cons,List.not_mem_nil,or_false,Prod.mk.injEq,Option.some.injEq]at hb
   obtain⟨rfl,rfl⟩:=hb
   rw[Blk.ids,setA,zb8]at hi'
   obtain⟨c,hc,hci⟩:=hi'
   rw[List.mem_append,List.mem_append]at hc
   rcases hc with(hc|hc)|hc
   ·exact(hDH _ _ hH).2 i' (za5 (List.mem_of_mem_take hc) hci)
   ·have :=zc4 i' (za5 hc hci)
    rcases zbZ hy i' this with⟨t',ht'⟩|⟨_,_,hq,_⟩
    ·exact hD t' i' ht'
    ·exact zaH hq
   ·exact(hDH _ _ hH).2 i' (za5 (List.mem_of_mem_drop hc) hci)
end
end Go.Ab
