/- Texts of the second layer in one: Ab18 Ab19 Ab20 Ab21 Ab22 Ab23 Ab24 Ab25 Ab26. -/
import Derived.Test.YthiioppfnmcclaaGreatG3
import Derived.Laws.Small
import Derived.ChangeKeysEq
import Derived.Laws.CopyRow
import Derived.Laws.Slices
set_option linter.unusedVariables false
set_option linter.unusedSimpArgs false
namespace Go.Ab
open Go.RowKit
theorem zcN (i j:Nat) (b:Option Blk) (H:List (Nat×Option Blk)):getH ((i,b)::H) j=if i=j then b else getH H j:=by
 rw[getH]
 by_cases hij:i=j
 ·subst hij;simp
 ·have :Nat.beq i j=false:=by cases hb:Nat.beq i j with
   |false=>rfl
   |true=>exact absurd (Nat.eq_of_beq_eq_true hb) hij
  simp[this,hij]
theorem zlk {P:Program} {L:Ln} {N:Nat} {c:Code} {Q:Exit→St→Prop} {E:List (Nat×AV)} {H:List (Nat×Option Blk)} {n i T sz:Nat} {es:List (List RV)} (hi:getH H i=some (.row T sz es)) (hne:es≠[])
  (h:∀cap,es.length≤cap→awp P L N c Q ⟨E,(i,some (.rowk T sz es es.length cap))::H,n⟩):awp P L N c Q ⟨E,H,n⟩:=by
 intro C h1 h2 h3 a w ⟨Z,S⟩
 obtain⟨⟨us,g1,g2,g3⟩,g4,g5⟩:=S.holds i _ hi
 have hx:∃g cap,Z i= .slice (some ⟨g,0,none⟩) es.length cap∧es.length≤cap:=by
  rcases g1.2 with⟨e,h0⟩|⟨g,cap,cur,e,_,_,hc,_⟩
  ·exact absurd (List.eq_nil_of_length_eq_zero h0) hne
  ·exact⟨g,cap,e,hc⟩
 obtain⟨g,cap,hz,hcap⟩:=hx
 refine h cap hcap C h1 h2 h3 a w ⟨Z,?_⟩
 have hH:∀j,St.HF ⟨E,(i,some (.rowk T sz es es.length cap))::H,n⟩ j=if i=j then some (.rowk T sz es es.length cap)else getH H j:=fun j=>zcN i j _ _
 have hold:∀j b,St.HF ⟨E,(i,some (.rowk T sz es es.length cap))::H,n⟩ j=some b→∃b',getH H j=some b':=by
  intro j b hj
  rw[hH]at hj
  split at hj
  ·rename_i e;subst e;exact⟨_,hi⟩
  ·exact⟨b,hj⟩
 have hO:Own C (St.HF ⟨E,(i,some (.rowk T sz es es.length cap))::H,n⟩) Z=Own C (St.HF ⟨E,H,n⟩) Z:=by
  funext x
  apply propext
  constructor
  ·rintro(h0|⟨j,b,hj,hjx⟩)
   ·exact .inl h0
   ·obtain⟨b',hb'⟩:=hold j b hj
    exact .inr ⟨j,b',hb',hjx⟩
  ·rintro(h0|⟨j,b,hj,hjx⟩)
   ·exact .inl h0
   ·by_cases e:i=j
    ·exact .inr ⟨j,_,by rw[hH,if_pos e],hjx⟩
    ·exact .inr ⟨j,b,by rw[hH,if_neg e];exact hj,hjx⟩
 refine⟨S.size,S.defers,S.frame,S.m0,fun t=>?_,S.ids,fun j b hj=>?_,fun j j' b c hj hj'=>?_,fun j b x hj=>?_,S.lm,S.zl⟩
 ·rw[hO];exact S.slots t
 ·rw[hO]
  rw[hH]at hj
  split at hj
  ·rename_i e
   subst e
   injection hj with hj
   subst hj
   exact⟨⟨g,us,hz,by rw[←hz];exact g1,Nat.le_refl _,g2,g3⟩,g4,fun q hq=>by simp[Blk.ids]at hq⟩
  ·exact S.holds j b hj
 ·obtain⟨b',hb'⟩:=hold j b hj
  obtain⟨c',hc'⟩:=hold j' c hj'
  exact S.dist j j' b' c' hb' hc'
 ·obtain⟨b',hb'⟩:=hold j b hj
  exact S.fresh j b' x hb'
inductive SrcK (env:Nat→AV) (H:Nat→Option Blk) (T sz:Nat) (x:Operand):List (List RV)→List (Nat×Blk)→Prop
 |src (es rd):Src env H T sz x es rd→SrcK env H T sz x es rd
 |ok (j es n c):evA env x= .ow j→H j=some (.rowk T sz es n c)→SrcK env H T sz x (es.take n) [(j,.rowk T sz es n c)]
 |ol (j m es n c):evA env x= .ol j m→H j=some (.rowk T sz es n c)→m≤es.length→SrcK env H T sz x (es.take m) [(j,.rowk T sz es n c)]
 |full (j es):evA env x= .ow j→H j=some (.full T sz es)→SrcK env H T sz x es [(j,.full T sz es)]
theorem SrcK.val {env:Nat→AV} {HF:Nat→Option Blk} {T sz:Nat} {x:Operand} {es:List (List RV)} {rd:List (Nat×Blk)} (h:SrcK env HF T sz x es rd) {Z:Nat→Value} {M:Nat→Prop} {w:World} {u:Value} (hr:(evA env x).rep Z M w u) (hh:∀i b,(i,b)∈rd→held Z M w i b):
  ∃A c news,u= .slice A es.length c∧news.length=es.length*sz∧(es.length≠0→∃ad,A=some ad∧∀j v,news[j]? =some v→w.cell? (ad.add j)=some v)∧RVs M w es.flatten news∧(∀e∈es,e.length=sz):=by
 have key:∀(es:List (List RV)) (n m c:Nat) (g:Nat) (us:List Value),w.ownsRow 0 T sz (.slice (some ⟨g,0,none⟩) es.length c) es.length us→m≤es.length→RVs M w es.flatten us→(∀e∈es,e.length=sz)→
   ∃A c' news,(Value.slice (some ⟨g,0,none⟩) m c)= .slice A (es.take m).length c'∧news.length=(es.take m).length*sz∧((es.take m).length≠0→∃ad,A=some ad∧∀j v,news[j]? =some v→w.cell? (ad.add j)=some v)∧RVs M w (es.take m).flatten news∧(∀e∈es.take m,e.length=sz):=by
  intro es n m c g us h1 hm h2 h3
  refine⟨_,_,us.take (m*sz),by rw[List.length_take,Nat.min_eq_left hm],?_,fun _=>⟨_,rfl,fun k v hk=>?_⟩,?_,fun e he=>h3 e (List.mem_of_mem_take he)⟩
  ·rw[List.length_take,List.length_take,h1.1,Nat.min_eq_left hm,Nat.min_eq_left (Nat.mul_le_mul_right _ hm)]
  ·rcases h1.2 with⟨e,_⟩|⟨g',cap,cur,e,_,hg,h6,_,_,h7⟩
   ·cases e
   ·have hg':g=g':=by injection e with e1;injection e1 with e1;injection e1 with e1
    subst hg'
    rw[add_mid,Nat.zero_add,cell_of_row w g k cur T (0,0) hg]
    rw[←h7,List.take_take,List.getElem?_take]at hk
    split at hk
    ·simpa using hk
    ·cases hk
  ·rw[(zaR sz es h3 m).2]
   exact h2.take _
 cases h with
 |src _ _ h=>exact h.val hr hh
 |ok j es n c hx hj=>
  rw[hx,AV.rep]at hr
  subst hr
  obtain⟨g,us,e,h1,h2,h3,h4⟩:=hh j (.rowk T sz es n c) (by simp)
  rw[e]
  exact key es n n c g us h1 h2 h3 h4
 |ol j m es n c hx hj hm=>
  rw[hx,AV.rep]at hr
  obtain⟨g',m',c',e',rfl⟩:=hr
  obtain⟨g,us,e,h1,h2,h3,h4⟩:=hh j (.rowk T sz es n c) (by simp)
  rw[e]at e'
  injection e' with e1 e2 e3
  injection e1 with e1
  injection e1 with e1
  subst e1 e3
  exact key es n m c g us h1 hm h3 h4
 |full j es hx hj=>
  rw[hx,AV.rep]at hr
  subst hr
  obtain⟨q,us,fr,h1,h2,h3,h4,h5⟩:=hh j (.full T sz es) (by simp)
  refine⟨_,_,us.toList,h1,by rw[←h4.len,zbW sz es h5],fun _=>⟨_,rfl,fun k v hk=>?_⟩,h4,h5⟩
  rw[add_mid,Nat.zero_add,cell_of_row w q k us T fr h2]
  simpa using hk
theorem SrcK.rdH {env:Nat→AV} {HF:Nat→Option Blk} {T sz:Nat} {x:Operand} {es:List (List RV)} {rd:List (Nat×Blk)} (h:SrcK env HF T sz x es rd):∀i b,(i,b)∈rd→HF i=some b:=by
 cases h with
 |src _ _ h=>exact h.rdH
 |ok j es n c hx hj=>intro i b h;have :=zcz h;injection this with e1 e2;subst e1 e2;exact hj
 |ol j m es n c hx hj hm=>intro i b h;have :=zcz h;injection this with e1 e2;subst e1 e2;exact hj
 |full j es hx hj=>intro i b h;have :=zcz h;injection this with e1 e2;subst e1 e2;exact hj
section
variable {P:Program} {L:Ln} {N:Nat} {ops:Array Oper} {chk:List (Nat×Sp)→Bool} {Q:St→Prop} {l:List Oper} {E:List (Nat×AV)} {H:List (Nat×Option Blk)} {n:Nat} {tr:List (Nat×Sp)}
variable {d:Nat} {ty:TypeId} {pos:String} {af:Array Edge} {g:Option (Nat×Bool)} {t:TypeId} {x y:Operand}
end
section
variable {H:Nat→Option Blk} {ρ:Nat→Nat} {G:List Nat} {env:Nat→AV} {x:Operand} {as ds:List AV}
theorem zmw {j T sz:Nat} {es es':List (List RV)} (hx:evA env x= .ow j) (hj:H j=some (.row T sz es)) (h:CfL H ρ G as ds) (e:es=es') (hg:j∈G):CfL H ρ G (evA env x::as) (.r (.sl sz es')::ds):=zoP h e hg hj hx
end
section
variable {P:Program} {env:Nat→AV} {H:Nat→Option Blk} {d:Option Tmp} {ty:TypeId} {pos:String} {af:Array Edge} {g:Option (Nat×Bool)} {t:TypeId} {x:Operand} {cs:List RV} {c:RV}
theorem zeQ [OnT P t] (hx:evA env x= .rp (c::cs)):zav P ⟨d,.load t x,ty,pos,af,g⟩ env H [] (.r c):=by
 obtain⟨D,h1,h2⟩:=OnT.und (P:=P) (t:=t)
 exact zkk hx (by rw[h1,Option.map_some,h2])
theorem zeR {n:Nat} [AgT P t n] (hx:evA env x= .rp cs) (hl:cs.length=n):zav P ⟨d,.load t x,ty,pos,af,g⟩ env H [] (.ag (cs.map .r)):=by
 obtain⟨D,h1,h2⟩:=AgT.und (P:=P) (t:=t) (n:=n)
 exact zkl hx (by rw[h1,Option.map_some,h2]) (by rw[AgT.size,hl])
end
theorem zgf {S:St} {ρ:Nat→Nat} {G:List Nat} {lh:List (Nat×Option Blk)} {i T sz n c:Nat} {es es':List (List RV)} (h:hLe S ρ G lh) (e:es=es') (hx:getH S.H (ρ i)=some (.rowk T sz es n c)):hLe S ρ G ((i,some (.rowk T sz es' n c))::lh):=by
 subst e;exact⟨⟨_,hx,.rowk _ _ _ _ _⟩,h⟩
theorem zdQ {Z:Nat→Value} {M:Nat→Prop} {w:World} {i T sz:Nat} {es:List (List RV)} (h:held Z M w i (.row T sz es)) (hne:es≠[]):
  ∃g cap cur us,Z i= .slice (some ⟨g,0,none⟩) es.length cap∧w.heap[g]? =some (.cells cur T (0,0))∧es.length≤cap∧cap≤maxLen∧cur.size=cap*sz∧cur.toList.take (es.length*sz)=us∧us.length=es.length*sz∧RVs M w es.flatten us∧∀e∈es,e.length=sz:=by
 obtain⟨us,h1,h2,h3⟩:=h
 rcases h1.2 with⟨e,h0⟩|⟨g,cap,cur,e,_,hg,k1,k2,k3,k4⟩
 ·exact absurd (List.eq_nil_of_length_eq_zero h0) hne
 ·exact⟨g,cap,cur,us,e,hg,k1,k2,k3,k4,h1.1,h2,h3⟩
theorem zik {Z:Nat→Value} {M:Nat→Prop} {w:World} {i T sz:Nat} {es:List (List RV)} (h:held Z M w i (.row T sz es)):∃A c,Z i= .slice A es.length c:=by
 obtain⟨us,h1,h2,h3⟩:=h
 rcases h1.2 with⟨e,h0⟩|⟨g,cap,cur,e,_,hg,k1,k2,k3,k4⟩
 ·exact⟨none,0,by rw[e,h0]⟩
 ·exact⟨_,_,e⟩
theorem zij {α:Type} {es:List α} {j:Nat} {e:α} (he:es[j]? =some e):j<es.length:=by
 rcases Nat.lt_or_ge j es.length with h'|h'
 ·exact h'
 ·rw[List.getElem?_eq_none h']at he;cases he
theorem flat_get {α:Type} {sz:Nat}:∀{es:List (List α)} (_:∀e∈es,e.length=sz) {k f:Nat} {e:List α} {c:α},es[k]? =some e→e[f]? =some c→es.flatten[k*sz+f]? =some c
 |[],_,k,f,e,c,h,_=>by simp at h
 |x::es,hs,0,f,e,c,h,hc=>by
  simp at h;subst h
  rw[List.flatten_cons,Nat.zero_mul,Nat.zero_add,List.getElem?_append_left (zij hc)];exact hc
 |x::es,hs,k+1,f,e,c,h,hc=>by
  have hx:=hs x (by simp)
  rw[List.flatten_cons,List.getElem?_append_right (by rw[hx,Nat.add_mul];omega),hx,show(k+1)*sz+f-sz=k*sz+f by rw[Nat.add_mul];omega]
  exact flat_get (fun e he=>hs e (by simp[he])) (by simpa using h) hc
theorem zii {α:Type} {sz:Nat}:∀{es:List (List α)} (_:∀e∈es,e.length=sz) {k f:Nat} {e ds:List α},es[k]? =some e→f+ds.length≤sz→(es.set k (setA e f ds)).flatten=setA es.flatten (k*sz+f) ds
 |[],_,k,f,e,ds,h,_=>by simp at h
 |x::es,hs,0,f,e,ds,h,hl=>by
  simp at h;subst h
  have hx:=hs x (by simp)
  rw[List.set_cons_zero,List.flatten_cons,List.flatten_cons,Nat.zero_mul,Nat.zero_add]
  unfold setA
  rw[List.take_append_of_le_length (by omega),List.drop_append_of_le_length (by omega)]
  simp
 |x::es,hs,k+1,f,e,ds,h,hl=>by
  have hx:=hs x (by simp)
  rw[List.set_cons_succ,List.flatten_cons,List.flatten_cons,zii (fun e he=>hs e (by simp[he])) (by simpa using h) hl]
  have e1:(k+1)*sz+f=x.length+(k*sz+f):=by rw[hx,Nat.add_mul];omega
  unfold setA
  rw[e1,List.take_append,List.take_of_length_le (l:=x) (by omega),show x.length+(k*sz+f)-x.length=k*sz+f by omega,List.drop_append,List.drop_eq_nil_of_le (as:=x) (by omega),show x.length+(k*sz+f)+ds.length-x.length=k*sz+f+ds.length by omega]
  simp
theorem RVs.drop {B:Nat→Prop} {w:World} {cs:List RV} {us:List Value} (h:RVs B w cs us):∀k,RVs B w (cs.drop k) (us.drop k):=by
 induction h with
 |nil=>intro k;simpa using RVs.nil
 |cons h1 h2 h3 ih=>
  intro k
  cases k with
  |zero=>exact .cons h1 h2 h3
  |succ k=>exact ih k
theorem RVs.setA {B:Nat→Prop} {w:World} {cs ds:List RV} {us vs:List Value} (h:RVs B w cs us) (k:RVs B w ds vs) (o:Nat):RVs B w (Go.Ab.setA cs o ds) (Go.Ab.setA us o vs):=by
 unfold Go.Ab.setA
 rw[k.len]
 exact((h.take o).append k).append (h.drop _)
theorem zhj {α:Type} (l:List α) (o n:Nat) (ds:List α) (h:o+ds.length≤n) (hn:n≤l.length):(setA l o ds).take n=setA (l.take n) o ds:=by
 unfold setA
 rw[List.take_append,List.take_of_length_le (l:=l.take o++ds) (by simp;omega),List.take_take,Nat.min_eq_left (by omega),List.drop_take]
 congr 2
 simp
 omega
section
variable {P:Program} {env:Nat→AV} {H:Nat→Option Blk} {d:Option Tmp} {ty:TypeId} {pos:String} {af:Array Edge} {g:Option (Nat×Bool)}
variable {t:TypeId} {x y:Operand} {sz:Nat} {es:List (List RV)}
theorem mem1 {i j:Nat} {b c:Blk} (h:(i,b)∈[(j,c)]):i=j∧b=c:=by simpa using h
theorem zg8 {i T:Nat} (hx:evA env x= .ow i) (hH:H i=some (.row T sz es)) (ht:P.underlying t=some (.slice (P.elem t))):zav P ⟨d,.call { callee:=.builtin .len,args:= #[x],argTypes:= #[t]},ty,pos,af,g⟩ env H [(i,.row T sz es)] (.r (.v (.int .i64 es.length))):=by
 refine⟨fun i b h=>by obtain⟨rfl,rfl⟩:=mem1 h;exact hH,fun i hi=>by simp[AV.ids]at hi,fun a w Z M hr hh=>?_⟩
 have h1:=hr x (by simp[Op.operands,Call.operands])
 rw[hx,AV.rep]at h1
 obtain⟨A,c,h2⟩:=zik (hh i _ List.mem_cons_self)
 refine⟨.int .i64 es.length,?_,by rw[AV.rep,RV.rep]⟩
 have :=run_len_slice (P:=P) w t ty A es.length c ht
 simp[execOp,resolve,h1,h2,invoke,builtin,this,goInt]
theorem zfU {i T n c:Nat} (hx:evA env x= .ow i) (hH:H i=some (.rowk T sz es n c)) (ht:P.underlying t=some (.slice (P.elem t))):zav P ⟨d,.call { callee:=.builtin .len,args:= #[x],argTypes:= #[t]},ty,pos,af,g⟩ env H [(i,.rowk T sz es n c)] (.r (.v (.int .i64 n))):=by
 refine⟨fun i b h=>by obtain⟨rfl,rfl⟩:=mem1 h;exact hH,fun i hi=>by simp[AV.ids]at hi,fun a w Z M hr hh=>?_⟩
 have h1:=hr x (by simp[Op.operands,Call.operands])
 rw[hx,AV.rep]at h1
 obtain⟨g,us,h2,_⟩:=hh i _ List.mem_cons_self
 refine⟨.int .i64 n,?_,by rw[AV.rep,RV.rep]⟩
 have :=run_len_slice (P:=P) w t ty (some ⟨g,0,none⟩) n c ht
 simp[execOp,resolve,h1,h2,invoke,builtin,this,goInt]
theorem ziw {i n:Nat} (hx:evA env x= .sv i n) (ht:P.underlying t=some (.slice (P.elem t))):zav P ⟨d,.call { callee:=.builtin .len,args:= #[x],argTypes:= #[t]},ty,pos,af,g⟩ env H [] (.r (.v (.int .i64 n))):=by
 refine⟨fun i b h=>zaH h,fun i hi=>by simp[AV.ids]at hi,fun a w Z M hr hh=>?_⟩
 have h1:=hr x (by simp[Op.operands,Call.operands])
 rw[hx,AV.rep]at h1
 obtain⟨b,h2,h3⟩:=h1
 refine⟨.int .i64 n,?_,by rw[AV.rep,RV.rep]⟩
 have :=run_len_slice (P:=P) w t ty (some ⟨b,0,none⟩) n n ht
 simp[execOp,resolve,h3,invoke,builtin,this,goInt]
theorem zcB {e b i T:Nat} [hT:SlT P t e sz b] {k:IntKind} {a:Int} {j:Nat} {el:List RV} (hx:evA env x= .ow i) (hH:H i=some (.row T sz es)) (hy:evA env y= .r (.v (.int k a))) (ha:a=(j:Int)) (he:es[j]? =some el):
  zav P ⟨d,.indexAddr t x y,ty,pos,af,g⟩ env H [(i,.row T sz es)] (.pe i sz j 0):=by
 subst ha
 have hj:=zij he
 refine⟨fun i b h=>by obtain⟨rfl,rfl⟩:=mem1 h;exact hH,fun i hi=>(zbZ hx i (by simpa[AV.ids]using hi)).imp id fun⟨_,_,h,_⟩=>zaH h,fun ac w Z M hr hh=>?_⟩
 have h1:=hr x (by simp[Op.operands])
 have h2:=ev_v hy (hr y (by simp[Op.operands]))
 rw[hx,AV.rep]at h1
 obtain⟨g,cap,cur,us,e1,hg,k1,k2,_⟩:=zdQ (hh i _ List.mem_cons_self) (by rintro rfl;simp at hj)
 obtain⟨ti,z,t1,t2,t3,t4,t5⟩:=SlT.inf (P:=P) (t:=t) (e:=e) (sz:=sz) (b:=b)
 have tu:=SlT.und (P:=P) (t:=t) (e:=e) (sz:=sz) (b:=b)
 have te:P.elem t=e:=by simp[Program.elem,tu]
 have hs:(sizeOf (P.elem t)).run P w= .ok sz w:=by rw[te];simp[sizeOf,typeInfo,t1,t3]
 have :=run_indexAt_slice (P:=P) w t ⟨g,0,none⟩ es.length cap k (j:Int) (by rw[te];exact tu)
 rw[if_pos ⟨by omega,by omega⟩,hs]at this
 refine⟨.pointer (some ⟨g,j*sz,none⟩),?_,by rw[AV.rep];exact⟨g,by rw[e1];rfl,by rw[Nat.add_zero]⟩⟩
 simp only[execOp,h2,h1,e1,Sem.run_bind,this,Result.andThen_ok,Int.toNat_natCast]
 simp[add_mid]
theorem zdq {e b i n:Nat} [hT:SlT P t e 1 b] {k:IntKind} {a:Int} {j:Nat} (hx:evA env x= .sv i n) (hy:evA env y= .r (.v (.int k a))) (ha:a=(j:Int)) (hj:Nat.blt j n=true):
  zav P ⟨d,.indexAddr t x y,ty,pos,af,g⟩ env H [] (.pt i j):=by
 subst ha
 have hj:=za2.1 hj
 refine⟨fun i b h=>zaH h,fun i hi=>(zbZ hx i (by simpa[AV.ids]using hi)).imp id fun⟨_,_,h,_⟩=>zaH h,fun ac w Z M hr hh=>?_⟩
 have h1:=hr x (by simp[Op.operands])
 have h2:=ev_v hy (hr y (by simp[Op.operands]))
 rw[hx,AV.rep]at h1
 obtain⟨g,e1,e2⟩:=h1
 obtain⟨ti,z,t1,t2,t3,t4,t5⟩:=SlT.inf (P:=P) (t:=t) (e:=e) (sz:=1) (b:=b)
 have tu:=SlT.und (P:=P) (t:=t) (e:=e) (sz:=1) (b:=b)
 have te:P.elem t=e:=by simp[Program.elem,tu]
 have hs:(sizeOf (P.elem t)).run P w= .ok 1 w:=by rw[te];simp[sizeOf,typeInfo,t1,t3]
 have :=run_indexAt_slice (P:=P) w t ⟨g,0,none⟩ n n k (j:Int) (by rw[te];exact tu)
 rw[if_pos ⟨by omega,by omega⟩,hs]at this
 refine⟨.pointer (some ⟨g,j,none⟩),?_,by rw[AV.rep];exact⟨g,e1,rfl⟩⟩
 simp only[execOp,h2,e2,Sem.run_bind,this,Result.andThen_ok,Int.toNat_natCast]
 simp[add_mid]
theorem zdr {i T k f:Nat} {e:List RV} {c:RV} [OnT P t] (hx:evA env x= .pe i sz k f) (hH:H i=some (.row T sz es)) (he:es[k]? =some e) (hc:e[f]? =some c):zav P ⟨d,.load t x,ty,pos,af,g⟩ env H [(i,.row T sz es)] (.r c):=by
 refine⟨fun i b h=>by obtain⟨rfl,rfl⟩:=mem1 h;exact hH,fun i hi=>by simp[AV.ids]at hi,fun a w Z M hr hh=>?_⟩
 have h1:=hr x (by simp[Op.operands])
 rw[hx,AV.rep]at h1
 have hj:=zij he
 obtain⟨g,cap,cur,us,e1,hg,k1,k2,k3,k4,k5,k6,k7⟩:=zdQ (hh i _ List.mem_cons_self) (by rintro rfl;simp at hj)
 obtain⟨b,e2,e3⟩:=h1
 have hb:b=g:=by rw[e1]at e2;simpa[blk]using e2.symm
 subst hb
 obtain⟨u,h7,h8,h9⟩:=k6.get (flat_get k7 he hc)
 obtain⟨D,hu,hD⟩:=OnT.und (P:=P) (t:=t)
 refine⟨u,?_,by rw[AV.rep];exact h9⟩
 have hcell:w.cell? ⟨b,k*sz+f,none⟩=some u:=by
  rw[cell_of_row w b _ cur T (0,0) hg]
  rw[←k4,List.getElem?_take]at h7
  split at h7
  ·simpa using h7
  ·cases h7
 simp only[execOp,e3,Instr.loadAt,Instr.sureAddr,Sem.run_bind,Sem.run_pure,Result.andThen_ok,zbs w _ t D u hu hD hcell]
end
section
variable {P:Program} {L:Ln} {N:Nat} {ops:Array Oper} {chk:List (Nat×Sp)→Bool} {Q:St→Prop} {l:List Oper} {E:List (Nat×AV)} {H:List (Nat×Option Blk)} {n:Nat} {tr:List (Nat×Sp)}
variable {d:Nat} {ty:TypeId} {pos:String} {af:Array Edge} {g:Option (Nat×Bool)} {t:TypeId} {x y:Operand}
theorem zbU {i T sz k f m:Nat} {es:List (List RV)} {e ds:List RV} (hx:evA (get E) x= .pe i sz k f) (hy:rvs (evA (get E) y)=some ds) (hok:ds.all rvOk=true) (hH:getH H i=some (.row T sz es)) (he:es[k]? =some e) (hs:(P.info? t).map (·.size)=some m) (hm:ds.length=m) (hf:Nat.ble (f+m) sz=true)
  (hg:za3 ops (get E) ⟨none,.store t x y,ty,pos,af,g⟩ true)
  (h:wpA P L N ops chk Q l ⟨E,(i,some (.row T sz (es.set k (setA e f ds))))::H,n⟩ ((n,⟨true,[(i,.row T sz es)],.r (.v undef),[(i,some (.row T sz (es.set k (setA e f ds))))],[]⟩)::tr)):
  wpA P L N ops chk Q (⟨none,.store t x y,ty,pos,af,g⟩::l) ⟨E,H,n⟩ tr:=by
 have hf:=zbv.1 hf
 have hkl:=zij he
 refine⟨⟨true,[(i,.row T sz es)],.r (.v undef),[(i,some (.row T sz (es.set k (setA e f ds))))],[]⟩,⟨(fun x hx=>by cases hx),hg,fun _ ac w Z M hM hr hh hdist=>?_,(fun h=>by cases h),fun D hD hDH hfr=>?_⟩,h⟩
 ·have hxr:(evA (get E) x).rep Z M w (ac.eval x):=hr x (by simp[Op.operands])
  have hyr:(evA (get E) y).rep Z M w (ac.eval y):=hr y (by simp[Op.operands])
  rw[hx,AV.rep]at hxr
  obtain⟨hheld,hMj⟩:=hh i (.row T sz es) (by simp)
  have hrv:=zkE hy hok hyr
  obtain⟨q,cap,cur,us,e1,hq,k1,k2,k3,k4,k5,k6,k7⟩:=zdQ hheld (by rintro rfl;simp at hkl)
  obtain⟨b,e2,e3⟩:=hxr
  have hb:b=q:=by rw[e1]at e2;simpa[blk]using e2.symm
  subst hb
  have hcl:(ac.eval y).cells.toList.length=ds.length:=hrv.len.symm
  have hfit:k*sz+f+ds.length≤es.length*sz:=by
   have :(k+1)*sz≤es.length*sz:=Nat.mul_le_mul_right _ hkl
   rw[Nat.add_mul]at this
   omega
  have hcapsz:es.length*sz≤cap*sz:=Nat.mul_le_mul_right _ k1
  have hcs:cur.toList.length=cap*sz:=by rw[Array.length_toList];exact k3
  have hall:(ac.eval y).cells.toList.all (·.oneCell')=true:=List.all_eq_true.2 hrv.one
  obtain⟨w',us',h7,h8,h9,h10⟩:=zcs (P:=P) (b:=b) (o:=k*sz+f) (T:=T) (ac.eval y).cells.toList 0 cur w hq (by rw[hcl];omega) hall
  have hsz:(sizeOf t).run P w= .ok (ac.eval y).cells.size w:=by rw[run_sizeOf hs];congr 1;have :(ac.eval y).cells.size=(ac.eval y).cells.toList.length:=by simp
                                                                omega
  have hex:(execOp ac.eval ⟨none,.store t x y,ty,pos,af,g⟩).run P w= .ok .skip w':=by
   have :(storeVar t ⟨b,k*sz+f,none⟩ (ac.eval y)).run P w= .ok () w':=by
    simp only[storeVar,Sem.run_bind,hsz,Result.andThen_ok]
    simp[h7]
   simp only[execOp,e3,Instr.storeAt,Instr.sureAddr,Sem.run_bind,Sem.run_pure,Result.andThen_ok,this]
  have hU:Upto M w w':=h10.mono fun q _ hq=>by subst hq;exact hMj _ e2
  have hNew:∀q,New n ⟨true,[(i,.row T sz es)],.r (.v undef),[(i,some (.row T sz (es.set k (setA e f ds))))],[]⟩ Z M q→M q:=fun q hq=>zfj rfl hq
  refine zfd hex ⟨Z,fun _ _=>rfl,by rw[AV.rep,RV.rep],fun i' c hi=>?_,fun j b h=>by simp at h,fun j j' x h=>by simp at h,fun j x h=>by simp at h,?_⟩
  ·simp only[List.mem_cons,List.not_mem_nil,or_false,Prod.mk.injEq,Option.some.injEq]at hi
   obtain⟨rfl,rfl⟩:=hi
   have hlen':(setA us (k*sz+f) (ac.eval y).cells.toList).length=us.length:=zd4 _ _ _ (by rw[hcl,k5];exact hfit)
   refine⟨setA us (k*sz+f) (ac.eval y).cells.toList,⟨by rw[hlen',k5,List.length_set],.inr ⟨b,cap,us',by rw[e1,List.length_set],Nat.zero_le _,h8,by rw[List.length_set];exact k1,k2,?_,?_⟩⟩,?_,fun e' he'=>?_⟩
   ·have :us'.size=us'.toList.length:=by simp
    rw[this,h9,Nat.add_zero,zd4 _ _ _ (by rw[hcl,hcs];omega),hcs]
   ·rw[h9,Nat.add_zero,List.length_set,←k4]
    exact zhj _ _ _ _ (by rw[hcl];exact hfit) (by rw[hcs];exact hcapsz)
   ·rw[zii k7 he (by omega)]
    exact(k6.mono hU fun q _ hq=>hNew q hq).setA (hrv.mono hU fun q _ hq=>hNew q hq) _
   ·rcases List.mem_or_eq_of_mem_set he' with h|h
    ·exact k7 e' h
    ·subst h
     have hel:=k7 e (List.mem_of_getElem? he)
     rw[zd4 _ _ _ (by omega)];exact hel
  ·refine h10.mono fun q _ hq=>?_
   subst hq
   exact⟨i,some (.row T sz (es.set k (setA e f ds))),by simp,e2⟩
 ·refine⟨fun i' b hb=>?_,fun i' o' ho=>?_,fun i' o' ho=>?_,fun i' ho=>?_,hfr,fun i' hi=>by simp[AV.ids]at hi,fun b h=>by simp at h,fun i' b hb i'' hi'=>?_⟩
  ·simp only[List.mem_cons,List.not_mem_nil,or_false,Prod.mk.injEq]at hb
   obtain⟨rfl,rfl⟩:=hb
   exact hH
  ·simp only[List.mem_cons,List.not_mem_nil,or_false,Prod.mk.injEq]at ho
   obtain⟨rfl,rfl⟩:=ho
   exact⟨.row T sz es,by simp⟩
  ·simp only[List.mem_cons,List.not_mem_nil,or_false,Prod.mk.injEq]at ho
   obtain⟨rfl,rfl⟩:=ho
   exact by simp[List.lookup_cons]
  ·simp at ho
  ·simp only[List.mem_cons,List.not_mem_nil,or_false,Prod.mk.injEq,Option.some.injEq]at hb
   obtain⟨rfl,rfl⟩:=hb
   simp[Blk.ids]at hi'
theorem zcu {i T k:Nat} {es:List (List RV)} {e:List RV} {c:RV} (hx:evA (get E) x= .pe i 1 k 0) (hy:evA (get E) y= .r c) (hok:rvOk c=true) (hH:getH H i=some (.row T 1 es)) (he:es[k]? =some e) (hs:(P.info? t).map (·.size)=some 1) (hl:e.length=1)
  (hg:za3 ops (get E) ⟨none,.store t x y,ty,pos,af,g⟩ true)
  (h:wpA P L N ops chk Q l ⟨E,(i,some (.row T 1 (es.set k [c])))::H,n⟩ ((n,⟨true,[(i,.row T 1 es)],.r (.v undef),[(i,some (.row T 1 (es.set k [c])))],[]⟩)::tr)):
  wpA P L N ops chk Q (⟨none,.store t x y,ty,pos,af,g⟩::l) ⟨E,H,n⟩ tr:=by
 refine zbU (ds:=[c]) (f:=0) hx (by rw[hy];rfl) (by simp[hok]) hH he hs rfl rfl hg ?_
 have :setA e 0 [c]=[c]:=by
  cases e with
  |nil=>cases hl
  |cons a e=>cases e with |nil=>rfl|cons b e=>simp at hl
 rw[this]
 exact h
end
/-! ## A literal of own slices -/
theorem zni {Z:Nat→Value} {M:Nat→Prop} {w:World} {i:Nat} {b:Blk} (h:held Z M w i b):(Z i).oneCell'=true∧(Z i).cells= #[Z i]:=by
 cases b with
 |row T sz es=>obtain⟨A,c,e⟩:=zik h;rw[e];exact⟨rfl,rfl⟩
 |full T sz es=>obtain⟨g,us,fr,e,_⟩:=h;rw[e];exact⟨rfl,rfl⟩
 |var T cs=>obtain⟨g,us,e,_⟩:=h;rw[e];exact⟨rfl,rfl⟩
 |rowk T sz es n c=>obtain⟨g,us,e,_⟩:=h;rw[e];exact⟨rfl,rfl⟩
 |rowo T sz es cs=>
  obtain⟨us,vs,h1,_⟩:=h
  rcases h1.2 with⟨e,_⟩|⟨g,cap,cur,e,_⟩<;>rw[e]<;>exact⟨rfl,rfl⟩
 |mp l=>obtain⟨g,us,ck,e,_⟩:=h;rw[e];exact⟨rfl,rfl⟩
 |obj o=>obtain⟨g,e,_⟩:=h;rw[e];exact⟨rfl,rfl⟩
 |gl g o=>rw[h.1];exact⟨rfl,rfl⟩
section
variable {P:Program} {env:Nat→AV} {ty:TypeId} {pos:String} {af:Array Edge} {g:Option (Nat×Bool)} {t:TypeId} {o:Option Tmp} {HF:Nat→Option Blk} {k:Nat} {E:List (Nat×AV)}
end
section
variable {H:Nat→Option Blk} {ρ:Nat→Nat} {G:List Nat} {cs ds:List AV} {S:St} {l:List (Nat×AV)} {t:Nat}
theorem ze9 {i j:Nat} (h:CfL H ρ G cs ds) (e:ρ i=j):CfL H ρ G (.ow j::cs) (.ow i::ds):=by subst e;exact .cons _ _ _ _ (.ow _) h
theorem zlB {i j n:Nat} (h:eLe S ρ G l) (e:ρ i=j) (hx:get S.env t= .sv j n):eLe S ρ G ((t,.sv i n)::l):=by
 subst e;refine⟨?_,h⟩;rw[show S.envF t= .sv (ρ i) n from hx];exact .sv _ _
end
section
variable {P:Program} {L:Ln} {N:Nat} {ops:Array Oper} {chk:List (Nat×Sp)→Bool} {Q:St→Prop} {l:List Oper} {E:List (Nat×AV)} {H:List (Nat×Option Blk)} {n:Nat} {tr:List (Nat×Sp)}
variable {d:Nat} {ty:TypeId} {pos:String} {af:Array Edge} {g:Option (Nat×Bool)} {t:TypeId} {x y:Operand}
end
theorem zcl (t T sz:Nat) {P:Program} {L:Ln} {N:Nat} {c:Code} {Q:Exit→St→Prop} {E:List (Nat×AV)} {H:List (Nat×Option Blk)} {n:Nat} (ht:get E t= .r (.v (.slice none 0 0))) (hL:Nat.ble L.n n=true)
  (h:awp P L N c Q ⟨(t,.ow n)::E,(n,some (.row T sz []))::H,n+1⟩):awp P L N c Q ⟨E,H,n⟩:=by
 intro C h1 h2 h3 a w ⟨Z,S⟩
 have hD:∀i,(fun i=>i<(⟨E,H,n⟩:St).nx) i→i≠n:=fun i hi e=>by subst e;exact absurd hi (Nat.lt_irrefl _)
 have hne:∀i b,getH H i=some b→i≠n:=fun i b hi=>hD i (S.holds i b hi).2.1
 let Z':Nat→Value:=fun i=>if i=n then .slice none 0 0 else Z i
 have hz:∀i,i≠n→Z' i=Z i:=fun i hi=>if_neg hi
 have hzn:Z' n= .slice none 0 0:=if_pos rfl
 have hH:∀j,St.HF ⟨(t,.ow n)::E,(n,some (.row T sz []))::H,n+1⟩ j=if n=j then some (.row T sz [])else getH H j:=fun j=>zcN n j _ _
 have hB:∀x,x<w.heap.size→Own C (St.HF ⟨(t,.ow n)::E,(n,some (.row T sz []))::H,n+1⟩) Z' x→Own C (getH H) Z x:=by
  rintro x _ (h0|⟨i,b,hi,hb⟩)
  ·exact .inl h0
  ·rw[hH]at hi
   split at hi
   ·rename_i e;subst e;rw[hzn]at hb;cases hb
   ·rename_i e;rw[hz i (fun h=>e h.symm)]at hb;exact .inr ⟨i,b,hi,hb⟩
 refine h C h1 h2 h3 a w ⟨Z',S.size,S.defers,S.frame,S.m0,fun u=>?_,fun u i hi=>?_,fun j b hj=>?_,fun j j' b c hj hj' hjj x hx=>?_,fun j b x hj hx=>?_,S.lm,fun i hi=>?_⟩
 ·show(get ((t,.ow n)::E) u).rep _ _ _ _
  by_cases hu:t=u
  ·subst hu
   have e:get ((t,AV.ow n)::E) t= .ow n:=by simp[get]
   rw[e,AV.rep,hzn]
   have :=S.slots t
   rw[show St.envF ⟨E,H,n⟩ t=get E t from rfl,ht,AV.rep,RV.rep]at this
   exact this
  ·have e:get ((t,AV.ow n)::E) u=get E u:=by
    have :Nat.beq t u=false:=by cases hb:Nat.beq t u with
     |false=>rfl
     |true=>exact absurd (Nat.eq_of_beq_eq_true hb) hu
    simp[get,this]
   rw[e]
   exact AV.rep_mono (Upto.refl _) hB _ (fun i hi=>hz i (hD i (S.ids u i hi))) _ (S.slots u)
 ·by_cases hu:t=u
  ·subst hu
   have e:St.envF ⟨(t,AV.ow n)::E,(n,some (.row T sz []))::H,n+1⟩ t= .ow n:=by simp[St.envF,get]
   rw[e]at hi
   have :i=n:=by simpa[AV.ids]using hi
   subst this
   exact Nat.lt_succ_self _
  ·have e:St.envF ⟨(t,AV.ow n)::E,(n,some (.row T sz []))::H,n+1⟩ u=get E u:=by
    have :Nat.beq t u=false:=by cases hb:Nat.beq t u with
     |false=>rfl
     |true=>exact absurd (Nat.eq_of_beq_eq_true hb) hu
    simp[St.envF,get,this]
   rw[e]at hi
   exact Nat.lt_succ_of_lt (S.ids u i hi)
 ·rw[hH]at hj
  split at hj
  ·rename_i e
   subst e
   injection hj with hj
   subst hj
   refine⟨⟨[],⟨by simp,.inl ⟨hzn,rfl⟩⟩,.nil,by simp⟩,Nat.lt_succ_self _,fun q hq=>by simp[Blk.ids]at hq⟩
  ·obtain⟨g1,g2,g3⟩:=S.holds j b hj
   exact⟨g1.keep (Upto.refl _) hB (hz j (hne j b hj)) (fun q hq=>hz q (hD q (g3 q hq))) (fun _ _=>rfl),Nat.lt_succ_of_lt g2,fun q hq=>Nat.lt_succ_of_lt (g3 q hq)⟩
 ·rw[hH]at hj hj'
  split at hj
  ·rename_i e;subst e;rw[hzn]at hx;cases hx
  ·split at hj'
   ·rename_i e;subst e;rw[hzn];exact fun h=>by cases h
   ·rw[hz j (hne j b hj)]at hx
    rw[hz j' (hne j' c hj')]
    exact S.dist j j' b c hj hj' hjj x hx
 ·rw[hH]at hj
  split at hj
  ·rename_i e;subst e;rw[hzn]at hx;cases hx
  ·rw[hz j (hne j b hj)]at hx
   exact S.fresh j b x hj hx
 ·obtain⟨g1,g2⟩:=S.zl i hi
  exact⟨(hz i (hD i g2)).trans g1,Nat.lt_succ_of_lt g2⟩
section
variable {P:Program} {env:Nat→AV} {H:Nat→Option Blk} {d:Option Tmp} {ty:TypeId} {pos:String} {af:Array Edge} {g:Option (Nat×Bool)} {ts:Array TypeId} {x y:Operand} {k k':IntKind} {a b c:Int}
theorem zg9 (hx:evA env x= .r (.v (.int k a))) (hy:evA env y= .r (.v (.int k' b))) (hc:(if b>a then b else a)=c):zav P ⟨d,.call { callee:=.builtin .max,args:= #[x,y],argTypes:=ts},ty,pos,af,g⟩ env H [] (.r (.v (.int k c))):=by
 refine⟨fun i b h=>zaH h,fun i hi=>by simp[AV.ids]at hi,fun ac w Z M hr _=>?_⟩
 have h1:=ev_v hx (hr x (by simp[Op.operands,Call.operands]))
 have h2:=ev_v hy (hr y (by simp[Op.operands,Call.operands]))
 refine⟨.int k c,?_,by rw[AV.rep,RV.rep]⟩
 have :=run_max_int2 (P:=P) (w:=w) ts ty k k' a b
 simp[execOp,resolve,h1,h2,invoke,builtin,this,hc]
theorem zha (hx:evA env x= .r (.v (.int k a))) (hy:evA env y= .r (.v (.int k' b))) (hc:(if b<a then b else a)=c):zav P ⟨d,.call { callee:=.builtin .min,args:= #[x,y],argTypes:=ts},ty,pos,af,g⟩ env H [] (.r (.v (.int k c))):=by
 refine⟨fun i b h=>zaH h,fun i hi=>by simp[AV.ids]at hi,fun ac w Z M hr _=>?_⟩
 have h1:=ev_v hx (hr x (by simp[Op.operands,Call.operands]))
 have h2:=ev_v hy (hr y (by simp[Op.operands,Call.operands]))
 refine⟨.int k c,?_,by rw[AV.rep,RV.rep]⟩
 have :=run_min_int2 (P:=P) (w:=w) ts ty k k' a b
 simp[execOp,resolve,h1,h2,invoke,builtin,this,hc]
end
section
variable {P:Program} {L:Ln} {N:Nat} {ops:Array Oper} {chk:List (Nat×Sp)→Bool} {Q:St→Prop} {l:List Oper} {S:St} {tr:List (Nat×Sp)} {d:Option Tmp} {ty:TypeId} {pos:String} {af:Array Edge} {g:Option (Nat×Bool)}
end
theorem zi4 {P:Program} {f:FuncId} {fx:Operand} {us:Array Value} {xs:Array Operand} {ats:Array TypeId} {d:Option Tmp} {ty:TypeId} {pos:String} {af:Array Edge} {g:Option (Nat×Bool)} (hf:zdJ P f=true) (a:Act) (w:World) (hu:a.eval fx= .func (.func f) #[] us):
  (execOp a.eval ⟨d,.call { callee:=.value fx,args:=xs,argTypes:=ats},ty,pos,af,g⟩).run P w= .ok (.enter f (xs.map a.eval++us)) w:=by
 unfold zdJ at hf
 split at hf
 ·rename_i fn hfn
  rw[Bool.and_eq_true]at hf
  have h1:(fn.name == "runtime.NumGoroutine")=false:=by simpa using hf.1
  have h2:fn.body.isNone=false:=by cases hb:fn.body<;>simp_all
  have h3:(callFunc f (xs.map a.eval++us)).run P w= .ok (.enter f (xs.map a.eval++us)) w:=by
   unfold callFunc
   simp only[program,Sem.run_bind,Sem.run,Result.andThen_ok,hfn,h1,h2]
   simp
  simp only[execOp,resolve,hu,Deferred.ofValue,Sem.run_bind,Sem.run_pure,Result.andThen_ok,invoke]
  simpa using h3
 ·cases hf
section
variable {P:Program} {L:Ln} {N:Nat} {ops:Array Oper} {chk:List (Nat×Sp)→Bool} {Q:St→Prop} {l:List Oper} {E:List (Nat×AV)} {H:List (Nat×Option Blk)} {n:Nat} {tr:List (Nat×Sp)}
variable {d:Nat} {ty:TypeId} {pos:String} {af:Array Edge} {g:Option (Nat×Bool)}
theorem zbt {f:FuncId} {fx:Operand} {cs:List AV} {xs:Array Operand} {ats:Array TypeId} {ds:List AV} {r:AV} (hfx:evA (get E) fx= .cl f cs∨(cs=[]∧evA (get E) fx= .r (.v (.func (.func f) #[] #[])))) (J:List Nat) (pre:List Blk) (post:List (Option Blk)) (hm:zam P f ds pre r post) (hargs:CfL (getH H) (fun i=>J.getD i 0) [] (xs.toList.map (evA (get E))++cs) ds) (hf:zdJ P f=true)
  (hH:∀i b,(i,b)∈rdOf J pre→getH H i=some b) (hpre:preB J n pre post ds L=true) (hrng:rngB (r.unfr n).1 n (r.unfr n).2.length=true)
  (hd:Nat.blt d N=true) (hg:za3 ops (get E) ⟨some d,.call { callee:=.value fx,args:=xs,argTypes:=ats},ty,pos,af,g⟩ true)
  (h:wpA P L N ops chk Q l ⟨(d,(r.unfr n).1)::E,frsL n (r.unfr n).2++(pairs J post++H),n+(r.unfr n).2.length⟩ ((n,⟨true,rdOf J pre,(r.unfr n).1,pairs J post,(r.unfr n).2⟩)::tr)):
  wpA P L N ops chk Q (⟨some d,.call { callee:=.value fx,args:=xs,argTypes:=ats},ty,pos,af,g⟩::l) ⟨E,H,n⟩ tr:=by
 unfold preB at hpre
 simp only[Bool.and_eq_true,zbv,List.all_eq_true,za2,decide_eq_true_eq]at hpre
 obtain⟨⟨⟨⟨⟨⟨⟨⟨b1,b2⟩,b3⟩,b4⟩,b5⟩,b6⟩,b7⟩,b8⟩,b9⟩:=hpre
 have b4:=Nat.eq_of_beq_eq_true b4
 have b5:=Nat.eq_of_beq_eq_true b5
 have hmem:∀q,q<J.length→J.getD q 0∈J:=fun q hq=>by rw[List.getD_eq_getElem?_getD,List.getElem?_eq_getElem hq];exact List.getElem_mem hq
 have hJq:∀q,q<J.length→J[q]? =some (J.getD q 0):=fun q hq=>by rw[List.getD_eq_getElem?_getD,List.getElem?_eq_getElem hq];rfl
 refine⟨⟨true,rdOf J pre,(r.unfr n).1,pairs J post,(r.unfr n).2⟩,⟨fun x hx=>?_,hg,fun _ a w Z M hM hr hh hdist=>?_,(fun h=>by cases h),fun D hD hDH hfree=>?_⟩,h⟩
 ·injection hx with hx;subst hx;exact za2.1 hd
 ·have hr':∀x∈xs.toList,(evA (get E) x).rep Z M w (a.eval x):=fun x hx=>hr x (by show x∈(#[fx]++xs).toList;rw[Array.toList_append];exact List.mem_append_right _ hx)
  have hreps:AV.reps Z M w (xs.toList.map (evA (get E))) (xs.toList.map a.eval):=by
   revert hr'
   generalize xs.toList=ys
   intro hr'
   induction ys with
   |nil=>rw[List.map_nil,AV.reps];rfl
   |cons y ys ih=>rw[List.map_cons,List.map_cons,AV.reps];exact⟨_,_,rfl,hr' y (by simp),ih fun x hx=>hr' x (by simp[hx])⟩
  have hfr:(evA (get E) fx).rep Z M w (a.eval fx):=hr fx (by show fx∈(#[fx]++xs).toList;rw[Array.toList_append];exact List.mem_append_left _ (by simp))
  obtain⟨us,hus,hcs⟩:∃us,a.eval fx= .func (.func f) #[] us∧AV.reps Z M w cs us.toList:=by
   rcases hfx with h0|⟨rfl,h0⟩
   ·rw[h0,AV.rep]at hfr;exact hfr
   ·rw[h0,AV.rep,RV.rep]at hfr;exact⟨#[],hfr,by rw[AV.reps]⟩
  have hreps:=zbd hreps hcs
  let Zc:Nat→Value:=fun i=>if i<J.length then Z (J.getD i 0)else Z i
  have hZc:∀i,i<J.length→Zc i=Z (J.getD i 0):=fun i hi=>if_pos hi
  have hargs':=CfL.reps (Z:=Z) (Z':=Zc) (B:=M) (B':=M) (w:=w) (fun _ _ h=>h) (fun j b hj hb=>by cases hj) hargs (fun i hi=>hZc i (b8 i hi)) _ hreps
  have hrdq:∀i b,(i,b)∈numd 0 pre→i<J.length∧(J.getD i 0,b)∈rdOf J pre∧b∈pre:=by
   intro i b hib
   have h1:=(zdp.1 hib).2
   rw[Nat.sub_zero]at h1
   have h2:=za4 h1
   exact⟨by omega,zcF.2 ⟨i,hJq i (by omega),h1⟩,List.mem_of_getElem? h1⟩
  have hinj:∀i j,i<J.length→j<J.length→i≠j→J.getD i 0≠J.getD j 0:=by
   intro i j hi hj hij he
   have h1:=hJq i hi
   have h2:=hJq j hj
   rw[List.getElem?_eq_getElem hi]at h1
   rw[List.getElem?_eq_getElem hj]at h2
   injection h1 with h1
   injection h2 with h2
   have hp:=List.pairwise_iff_getElem.1 b3
   rcases Nat.lt_trichotomy i j with h|h|h
   ·exact hp i j hi hj h (by rw[h1,h2,he])
   ·exact hij h
   ·exact hp j i hj hi h (by rw[h1,h2,he])
  have hc:=hm w Zc M n (xs.toList.map a.eval++us.toList) hM (by omega) hargs' (fun i b hib=>by
   obtain⟨h1,h2,h3⟩:=hrdq i b hib
   obtain⟨h4,h5⟩:=hh _ b h2
   exact⟨zax h4 (hZc i h1) (by simpa using b6 b h3) (fun _ _ h=>h),fun x hx=>h5 x (by rw[←hZc i h1];exact hx)⟩) (fun i j b c hi hj hij x hx=>by
   obtain⟨h1,h2,_⟩:=hrdq i b hi
   obtain⟨h3,h4,_⟩:=hrdq j c hj
   rw[hZc i h1]at hx
   rw[hZc j h3]
   exact hdist _ _ b c h2 h4 (hinj i j h1 h3 hij) x hx)
  refine zcm (zi4 hf a w hus) ?_
  have he:(xs.toList.map a.eval++us.toList).toArray=xs.map a.eval++us:=by rw[←Array.toList_map,←Array.toList_append]
  rw[he]at hc
  refine hc.mono fun e w' ⟨v,h1,Z1,A⟩=>⟨v,h1,fun i=>if n≤i∧i<n+(r.unfr n).2.length then Z1 i else Z i,?_⟩
  generalize hZ2:(fun i=>if n≤i∧i<n+(r.unfr n).2.length then Z1 i else Z i)=Z2
  have z1:∀i,n≤i→i<n+(r.unfr n).2.length→Z2 i=Z1 i:=fun i h1 h2=>by rw[←hZ2];exact if_pos ⟨h1,h2⟩
  have z2:∀i,(i<n∨n+(r.unfr n).2.length≤i)→Z2 i=Z i:=fun i h1=>by rw[←hZ2];exact if_neg (by omega)
  have hN:∀q,q<w'.heap.size→New n ⟨true,rdOf J pre,(r.unfr n).1,pairs J post,(r.unfr n).2⟩ Z2 M q→New n (zaq n pre r post) Z1 M q:=by
   rintro q _ (h0|⟨j,hj,hq⟩)
   ·exact .inl h0
   ·have hj':j<(r.unfr n).2.length:=hj
    rw[z1 (n+j) (by omega) (by omega)]at hq
    exact .inr ⟨j,hj,hq⟩
  have hup:∀j o,(j,o)∈pairs J post↔∃q,q<J.length∧J.getD q 0=j∧(q,o)∈zaM 0 post:=by
   intro j o
   rw[zbc]
   constructor
   ·rintro⟨q,h1,h2⟩
    exact⟨q,za4 h1,zhG h1,zaK.2 ⟨Nat.zero_le _,by simpa using h2⟩⟩
   ·rintro⟨q,h1,h2,h3⟩
    exact⟨q,by rw[hJq q h1,h2],by simpa using(zaK.1 h3).2⟩
  have hnl:∀q o,(q,o)∈zaM 0 post→q<J.length:=fun q o h=>by
   have :=za4 (zaK.1 h).2
   omega
  refine⟨z2,?_,fun j b hjb=>?_,fun j b hj=>?_,fun j j' x hj hj' hne h3 h4=>?_,fun j x hj hx=>?_,A.upto.mono fun x _ ⟨i,o,hi,hx⟩=>?_⟩
  ·refine AV.rep_mono (Upto.refl _) hN _ (fun i hi=>?_) _ A.out
   have :=List.all_eq_true.1 hrng i hi
   rw[Bool.and_eq_true,zbv,za2]at this
   exact z1 i this.1 this.2
  ·obtain⟨q,h2,h3,h4⟩:=(hup j (some b)).1 hjb
   have h5:=A.up q b h4
   refine zax h5 ?_ ?_ hN
   ·rw[z2 j (.inl (b2 j (h3▸hmem q h2))),A.z q (.inl (by omega)),hZc q h2,h3]
   ·have h6:=(zaK.1 h4).2
    have :=b7 _ (List.mem_of_getElem? h6)
    simpa using this
  ·obtain⟨T,sz,es,rfl,_⟩:=zbR r n b (List.mem_of_getElem? hj)
   have hjl:=za4 hj
   have hjl':j<(r.unfr n).2.length:=hjl
   exact zax (A.fr j _ hj) (z1 (n+j) (by omega) (by omega)) rfl hN
  ·have k1:j<(r.unfr n).2.length:=hj
   have k2:j'<(r.unfr n).2.length:=hj'
   have h3':blk (Z2 (n+j))=some x:=h3
   have h4':blk (Z2 (n+j'))=some x:=h4
   rw[z1 (n+j) (by omega) (by omega)]at h3'
   rw[z1 (n+j') (by omega) (by omega)]at h4'
   exact A.dist j j' x hj hj' hne h3' h4'
  ·have k1:j<(r.unfr n).2.length:=hj
   have hx':blk (Z2 (n+j))=some x:=hx
   rw[z1 (n+j) (by omega) (by omega)]at hx'
   rcases A.fresh j x hj hx' with h|⟨i,hi,hix⟩
   ·exact .inl h
   ·have k2:=hnl i _ hi
    rw[hZc i k2]at hix
    exact .inr ⟨J.getD i 0,(hup _ _).2 ⟨i,k2,rfl,hi⟩,hix⟩
  ·have k2:=hnl i _ hi
   rw[hZc i k2]at hx
   exact⟨J.getD i 0,o,(hup _ _).2 ⟨i,k2,rfl,hi⟩,hx⟩
 ·refine⟨hH,fun i o h=>?_,fun i o h=>zcb b3 h,fun i h=>?_,hfree,fun i hi=>.inr ?_,fun b hb i hi=>?_,fun i b hib i' hi'=>?_⟩
  ·obtain⟨q,h1,h2⟩:=zbc.1 h
   have h3:=za4 h1
   exact⟨pre[q]'(by omega),zcF.2 ⟨q,h1,List.getElem?_eq_getElem _⟩⟩
  ·have :=b9 _ h
   simp only[Bool.or_eq_true,za2,zbv]at this
   exact this
  ·have :=List.all_eq_true.1 hrng i hi
   rw[Bool.and_eq_true,zbv,za2]at this
   exact this
  ·obtain⟨T,sz,es,rfl,_⟩:=zbR r n b hb
   simp[Blk.ids]at hi
  ·obtain⟨q,h1,h2⟩:=zbc.1 hib
   have :=b7 _ (List.mem_of_getElem? h2)
   have :b.ids=[]:=by simpa using this
   rw[this]at hi'
   cases hi'
end
section
variable {P:Program} {env:Nat→AV} {H:Nat→Option Blk} {d:Option Tmp} {ty:TypeId} {pos:String} {af:Array Edge} {g:Option (Nat×Bool)} {x y:Operand} {a b:AV} {f:FuncId}
end
theorem zg5 (zc:Array Value) (n:Nat):(madeCells zc (n*zc.size)).toList=(List.replicate n zc.toList).flatten:=by
 apply List.ext_getElem?
 intro j
 have hl:∀n,(List.replicate n zc.toList).flatten.length=n*zc.size:=fun n=>by simp
 by_cases hj:j<n*zc.size
 ·have e1:(madeCells zc (n*zc.size)).toList[j]? =some (zc[j%zc.size]!):=by
   simp[madeCells,hj]
  rw[e1]
  have hz:0<zc.size:=by
   rcases Nat.eq_zero_or_pos zc.size with h|h
   ·rw[h,Nat.mul_zero]at hj;omega
   ·exact h
  have key:∀(n j:Nat),j<n*zc.size→(List.replicate n zc.toList).flatten[j]? =some (zc[j%zc.size]!):=by
   intro n
   induction n with
   |zero=>intro j hj;omega
   |succ n ih=>
    intro j hj
    rw[List.replicate_succ,List.flatten_cons]
    by_cases h:j<zc.size
    ·rw[List.getElem?_append_left (by simpa using h),Nat.mod_eq_of_lt h]
     simp[h]
    ·rw[List.getElem?_append_right (by simp;omega),Array.length_toList,ih (j-zc.size) (by rw[Nat.add_mul]at hj;omega),←Nat.mod_eq_sub_mod (by omega)]
  exact(key n j hj).symm
 ·rw[List.getElem?_eq_none (by simp[madeCells];omega),List.getElem?_eq_none (by rw[hl];omega)]
theorem zgB {B:Nat→Prop} {w:World}:∀(cs:List Value),cs.all (·.oneCell')=true→RVs B w (cs.map .v) cs
 |[],_=>.nil
 |c::cs,h=>by
  rw[List.all_cons,Bool.and_eq_true]at h
  exact .cons h.1 (by rw[RV.rep]) (zgB cs h.2)
section
variable {P:Program} {E:List (Nat×AV)} {HF:Nat→Option Blk} {o:Option Tmp} {ty:TypeId} {pos:String} {af:Array Edge} {g:Option (Nat×Bool)} {x y:Operand} {t:TypeId} {k:Nat}
theorem zeO {e sz b m:Nat} {cs:List Value} [hT:SlT P t e sz b] [hZ:ZrT P e cs] {q q':IntKind} (hx:evA (get E) x= .r (.v (.int q m))) (hy:evA (get E) y= .r (.v (.int q' m))) (hb:b*m≤281474976710656∧m≤9223372036854775807):
  ze2 P ⟨o,.makeSlice t x y,ty,pos,af,g⟩ (get E) HF [] k (.ow k) (.row e sz (List.replicate m (cs.map .v))):=by
 refine⟨fun i b h=>zaH h,rfl,fun i hi=>by simp[Blk.ids]at hi,fun a w Z M hM hr _=>?_⟩
 have h1:=ev_v hx (hr x (by simp[Op.operands]))
 have h2:=ev_v hy (hr y (by simp[Op.operands]))
 obtain⟨i,z,t1,t2,t3,t4,t5⟩:=SlT.inf (P:=P) (t:=t) (e:=e) (sz:=sz) (b:=b)
 have tu:=SlT.und (P:=P) (t:=t) (e:=e) (sz:=sz) (b:=b)
 have hz:z.cells=cs.toArray:=by
  have :=hZ.ok
  rw[t1,Option.map_some,t2,Option.map_some]at this
  injection this with h
  injection h
 obtain⟨w',h3,h4,h5⟩:=run_make_full (P:=P) w 0 t e i z sz tu t1 t2 t3 q q' m (by rw[t4];exact hb.1) (by unfold maxLen;omega) (Nat.zero_le _)
 have hbel:Below w.heap.size w w':=⟨h5.os,h5.tape,h5.output,h5.size,fun q hq=>h5.block q hq (fun e=>by cases e)⟩
 have hcl:cs.length=sz:=by have :=t5;rw[hz]at this;simpa using this
 refine⟨_,.slice (some ⟨w.heap.size,0,none⟩) m m,w',?_,hbel,fun q hq=>by simp[blk]at hq;omega,fun Z' hz' hzo=>⟨by rw[AV.rep,hz'],fun _=>?_⟩⟩
 ·simp only[execOp,h1,h2,Sem.run_bind,h3,Result.andThen_ok,Sem.run_pure]
 ·refine⟨(madeCells z.cells (m*sz)).toList,?_,?_,fun el hel=>?_⟩
  ·rw[hz',List.length_replicate];exact h4
  ·rw[hz,←hcl,show cs.length=cs.toArray.size by simp,zg5]
   have :∀m,(List.replicate m (cs.map RV.v)).flatten=((List.replicate m cs).flatten).map RV.v:=fun m=>by
    induction m with
    |zero=>rfl
    |succ m ih=>rw[List.replicate_succ,List.replicate_succ,List.flatten_cons,List.flatten_cons,List.map_append,ih]
   rw[this]
   refine zgB _ ?_
   rw[List.all_eq_true]
   intro v hv
   obtain⟨l,hl,hvl⟩:=List.mem_flatten.1 hv
   have :=(List.mem_replicate.1 hl).2
   subst this
   exact List.all_eq_true.1 hZ.one v (by simpa using hvl)
  ·have :=(List.mem_replicate.1 hel).2
   subst this
   rw[List.length_map,hcl]
end
section
variable {H:Nat→Option Blk} {ρ:Nat→Nat} {G:List Nat} {env:Nat→AV} {x:Operand} {as ds cs cs':List AV} {S:St} {l:List (Nat×AV)} {t:Nat} {f:Nat}
theorem zln (h:CfL H ρ G as ds) (hc:CfL H ρ G cs cs') (hx:evA env x= .cl f cs):CfL H ρ G (evA env x::as) (.cl f cs'::ds):=by rw[hx];exact .cons _ _ _ _ (.cl _ _ _ hc) h
theorem zdx {i j o:Nat} (h:CfL H ρ G cs ds) (e:ρ i=j):CfL H ρ G (.pt j o::cs) (.pt i o::ds):=by subst e;exact .cons _ _ _ _ (.pt _ _) h
theorem zm5 (h:eLe S ρ G l) (hc:CfL S.HF ρ G cs cs') (hx:get S.env t= .cl f cs):eLe S ρ G ((t,.cl f cs')::l):=by
 refine⟨?_,h⟩;rw[show S.envF t= .cl f cs from hx];exact .cl _ _ _ hc
end
section
variable {P:Program} {L:Ln} {N:Nat} {ops:Array Oper} {chk:List (Nat×Sp)→Bool} {Q:St→Prop} {l:List Oper} {S:St} {tr:List (Nat×Sp)} {d:Option Tmp} {ty:TypeId} {pos:String} {af:Array Edge} {g:Option (Nat×Bool)}
theorem zdW {t:Tmp} {xs:Array Operand} {ats:Array TypeId} (h:wpA P L N ops chk Q (⟨d,.call { callee:=.value (.tmp t),args:=xs,argTypes:=ats},ty,pos,af,g⟩::l) S tr):wpA P L N ops chk Q (⟨d,.call { callee:=.value (.tmp t),args:=xs,argTypes:=ats},ty,pos,af,g⟩::l) S tr:=h
end
@[irreducible] def Halt (p:Prop):Prop:=p
theorem halt {p:Prop} (h:p):Halt p:=by unfold Halt;exact h
theorem zeJ (r:Nat) {P:Program} {L:Ln} {N:Nat} {ops:Array Oper} {b:Bool} {y:Code} {Q:Exit→St→Prop} {S:St} (h:Halt (awp P L N (.seq (.region r ops b) y) Q S)):awp P L N (.seq (.region r ops b) y) Q S:=by
 unfold Halt at h;exact h
theorem zdI (r:Nat) {P:Program} {L:Ln} {N:Nat} {ops:Array Oper} {b:Bool} {Q:Exit→St→Prop} {S:St} (h:Halt (awp P L N (.region r ops b) Q S)):awp P L N (.region r ops b) Q S:=by
 unfold Halt at h;exact h
section
variable {P:Program} {env:Nat→AV} {H:Nat→Option Blk} {d:Option Tmp} {ty:TypeId} {pos:String} {af:Array Edge} {g:Option (Nat×Bool)} {t:TypeId} {x y:Operand}
end
section
variable {P:Program} {ty:TypeId} {pos:String} {af:Array Edge} {g:Option (Nat×Bool)} {t:TypeId} {o:Option Tmp} {HF:Nat→Option Blk} {k:Nat} {E:List (Nat×AV)}
theorem zen {e b i j p q:Nat} [hT:SlT P t e 1 b] {x y:Operand} (hx:evA (get E) x= .pt i p) (hy:evA (get E) y= .pt j q):
  ze2 P ⟨o,.buildSlice t 2 #[(0,x),(1,y)],ty,pos,af,g⟩ (get E) HF [] k (.sv k 2) (.var e [.pt i p,.pt j q]):=by
 refine⟨fun i' b' h=>by simp at h,by simp[AV.ids],fun i' hi'=>?_,fun a w Z M hM hr hh=>?_⟩
 ·simp only[Blk.ids,AV.idss,AV.ids,List.append_nil,List.cons_append,List.nil_append,List.mem_cons,List.not_mem_nil,or_false]at hi'
  rcases hi' with rfl|rfl
  ·rcases zbZ hx i' (by simp[AV.ids])with h|⟨_,_,h,_⟩
   ·exact .inl h
   ·simp at h
  ·rcases zbZ hy i' (by simp[AV.ids])with h|⟨_,_,h,_⟩
   ·exact .inl h
   ·simp at h
 ·have h1:=hr x (by simp[Op.operands])
  have h2:=hr y (by simp[Op.operands])
  rw[hx,AV.rep]at h1
  rw[hy,AV.rep]at h2
  obtain⟨b1,f1,f2⟩:=h1
  obtain⟨b2,f3,f4⟩:=h2
  obtain⟨ti,z,t1,t2,t3,t4,t5⟩:=SlT.inf (P:=P) (t:=t) (e:=e) (sz:=1) (b:=b)
  have tu:=SlT.und (P:=P) (t:=t) (e:=e) (sz:=1) (b:=b)
  have hrun:(Instr.buildSlice t 2 #[(0,.pointer (some ⟨b1,p,none⟩)),(1,.pointer (some ⟨b2,q,none⟩))]).run P w= .ok (.slice (some ⟨w.heap.size,0,none⟩) 2 2) (w.alloc (.cells #[.pointer (some ⟨b1,p,none⟩),.pointer (some ⟨b2,q,none⟩)] e)):=by
   refine run_buildSlice w t e 2 _ _ ti z tu t1 t2 (by rw[t3];omega) (by rw[t3];decide) ?_
   rw[t3]
   have :=Great.fill_whole (s:=1) (by decide) [.pointer (some ⟨b1,p,none⟩),.pointer (some ⟨b2,q,none⟩)] (Array.map (fun x=>z.cells[x%z.cells.size]!) (Array.range 2)) (by intro v hv;simp at hv;rcases hv with rfl|rfl<;>rfl) (by simp)
   simpa[Value.cells]using this
  have hex:(execOp a.eval ⟨o,.buildSlice t 2 #[(0,x),(1,y)],ty,pos,af,g⟩).run P w= .ok (.value (.slice (some ⟨w.heap.size,0,none⟩) 2 2)) (w.alloc (.cells #[.pointer (some ⟨b1,p,none⟩),.pointer (some ⟨b2,q,none⟩)] e)):=by
   simp only[execOp,List.map_toArray,List.map_cons,List.map_nil,f2,f4,Sem.run_bind,hrun,Result.andThen_ok,Sem.run_pure]
  refine⟨_,.pointer (some ⟨w.heap.size,0,none⟩),_,hex,(Below.refl _ _).alloc (Nat.le_refl _) _,fun r hr=>by simp[blk]at hr;omega,fun Z' hz' hzo=>⟨by rw[AV.rep,hz'];exact⟨_,rfl,rfl⟩,fun hids=>?_⟩⟩
  have hzi:Z' i=Z i:=hzo i (hids i (by simp[Blk.ids,AV.idss,AV.ids]))
  have hzj:Z' j=Z j:=hzo j (hids j (by simp[Blk.ids,AV.idss,AV.ids]))
  refine⟨w.heap.size, #[.pointer (some ⟨b1,p,none⟩),.pointer (some ⟨b2,q,none⟩)],hz',zdP _ _,?_,by simp[Value.oneCell']⟩
  simp only[AV.reps,AV.rep,hzi,hzj]
  exact⟨_,_,rfl,⟨b1,f1,rfl⟩,_,_,rfl,⟨b2,f3,rfl⟩,rfl⟩
end
theorem Rt.ag5 {H:Nat→Option Blk} {L:Nat} {G:List Nat} {k1 k2 k3 k4 k5:IntKind} {a b c d e a' b' c' d' e':Int} (h1:a=a') (h2:b=b') (h3:c=c') (h4:d=d') (h5:e=e'):
  Rt H L G (.ag [.r (.v (.int k1 a)),.r (.v (.int k2 b)),.r (.v (.int k3 c)),.r (.v (.int k4 d)),.r (.v (.int k5 e))]) (.ag [.r (.v (.int k1 a')),.r (.v (.int k2 b')),.r (.v (.int k3 c')),.r (.v (.int k4 d')),.r (.v (.int k5 e'))]) ([]++([]++([]++([]++([]++[]))))):=by
 subst h1 h2 h3 h4 h5
 exact .ag _ _ _ (.cons _ _ _ _ [] [] (.r _) (.cons _ _ _ _ [] [] (.r _) (.cons _ _ _ _ [] [] (.r _) (.cons _ _ _ _ [] [] (.r _) (.cons _ _ _ _ [] [] (.r _) .nil)))))
theorem zow {post:List (Option Blk)} {P:Program} {L:Ln} {fn:Func} {S:St} {r s q y z:AV} {cs:List AV} {p u v ty i n:Nat} {T:TypeId} {F F' F'':List Nat} [hT:AgT P ty n] (G:List Nat) (hrt:Rt (getH S.H) L.n G (.ag cs) r F) (hrs:Rt (getH S.H) L.n G y s F') (hrq:Rt (getH S.H) L.n G z q F'') (hres:fn.results= #[.cell p ty,.tmp u,.tmp v]) (hp:get S.env p= .pt i 0) (hi:getH S.H i=some (.var T cs)) (hl:cs.length=n) (hy:get S.env u=y) (hz:get S.env v=z)
  (hpo:∀i b,(i,some b)∈zaM 0 post→getH S.H i=some b∧b.ids=[]) (hn:zbl L (F++(F'++(F''++[]))) G=true):(Exit.ret= .normal∨Exit.ret= .ret)∧zeF P L fn S (.tu [r,s,q]) post:=by
 obtain⟨d,h1,h2⟩:=hT.und
 refine⟨.inr rfl,⟨⟨.tu [.ag cs,y,z],_,G,.three _ _ _ _ _ _ hres (.agg _ _ _ _ _ _ hp hi h1 h2 ?_) (.tmp _ _ hy) (.tmp _ _ hz),.tu _ _ _ (.cons _ _ _ _ _ _ hrt (.cons _ _ _ _ _ _ hrs (.cons _ _ _ _ _ _ hrq .nil))),hn⟩,hpo⟩⟩
 rw[hT.size,hl]
section
variable {P:Program} {env:Nat→AV} {H:Nat→Option Blk} {d:Option Tmp} {ty:TypeId} {pos:String} {af:Array Edge} {g:Option (Nat×Bool)} {t:TypeId} {x y:Operand}
end
class EqAr (P:Program) (t:Nat):Prop where ok:P.eqGuardType P.depth t=false
section
variable {P:Program} {env:Nat→AV} {H:Nat→Option Blk} {d:Option Tmp} {ty:TypeId} {pos:String} {af:Array Edge} {g:Option (Nat×Bool)}
variable {t u:TypeId} {x y:Operand}
end
section
variable {P:Program} {L:Ln} {N:Nat} {ops:Array Oper} {chk:List (Nat×Sp)→Bool} {Q:St→Prop} {E:List (Nat×AV)} {H:List (Nat×Option Blk)} {n:Nat} {tr:List (Nat×Sp)} {l:List Oper}
variable {ty:TypeId} {pos:String} {af:Array Edge} {g:Option (Nat×Bool)} {t t':TypeId} {x y:Operand} {d:Nat}
end
def wv (l:List Nat):List AV:=l.map fun(a:Nat)=>.r (.v (.int .u64 (a:Int)))
theorem zoJ (l:List Nat):(wv l).length=l.length:=by unfold wv;simp
theorem zoK (l:List Nat) (i v:Nat) (h:i<l.length):setA (wv l) i [.r (.v (.int .u64 (v:Int)))]=wv (l.set i v):=by
 unfold setA wv
 apply List.ext_getElem?
 intro k
 rcases Nat.lt_trichotomy k i with hk|hk|hk
 ·have hkl:k<l.length:=by omega
  simp[List.getElem?_append,List.getElem?_take,List.getElem?_set,hk,Nat.min_eq_left (Nat.le_of_lt h),show ¬i=k by omega,hkl]
 ·subst hk
  simp[List.getElem?_append,List.getElem?_take,List.getElem?_set,h,Nat.min_eq_left (Nat.le_of_lt h)]
 ·obtain⟨q,rfl⟩:∃q,k=i+1+q:=⟨k-(i+1),by omega⟩
  have :i≠i+1+q:=by omega
  have e:i+1+q-i=q+1:=by omega
  simp[List.getElem?_append,List.getElem?_take,List.getElem?_set,h,Nat.min_eq_left (Nat.le_of_lt h),this,show ¬i+1+q<i by omega,e]
section
variable {P:Program} {L:Ln} {N:Nat} {ops:Array Oper} {chk:List (Nat×Sp)→Bool} {Q:St→Prop} {S:St} {tr:List (Nat×Sp)} {l:List Oper} {d:Option Tmp} {ty:TypeId} {pos:String} {af:Array Edge} {g:Option (Nat×Bool)}
end
end Go.Ab
