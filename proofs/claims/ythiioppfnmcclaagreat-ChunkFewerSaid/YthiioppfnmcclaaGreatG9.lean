/- Texts of the second layer in one: Ab41 Ab42. -/
import Derived.Test.YthiioppfnmcclaaGreatG6
import Derived.Test.YthiioppfnmcclaaGreatG3
set_option linter.unusedVariables false
set_option linter.unusedSimpArgs false
namespace Go.Ab
open Go.RowKit
section
variable {P:Program} {H:Nat→Option Blk} {env:Nat→AV} {d:Option Tmp} {ty:TypeId} {pos:String} {af:Array Edge} {g:Option (Nat×Bool)} {t:TypeId} {x y:Operand}
theorem zff {Z:Nat→Value} {M:Nat→Prop} {w:World} {i T n c:Nat} {es:List (List RV)} (h:held Z M w i (.rowk T 1 es n c)) (hne:es≠[]):
  ∃g cur,Z i= .slice (some ⟨g,0,none⟩) n c∧w.heap[g]? =some (.cells cur T (0,0))∧n≤es.length∧es.length≤c∧c≤maxLen∧cur.size=c*1∧RVs M w es.flatten (cur.toList.take (es.length*1))∧∀e∈es,e.length=1:=by
 obtain⟨g,us,e1,h1,h2,h3,h4⟩:=h
 rcases h1.2 with⟨e,h0⟩|⟨g',cap,cur,e,_,hg,k1,k2,k3,k4⟩
 ·exact absurd (List.eq_nil_of_length_eq_zero h0) hne
 ·injection e with e5 e6 e7
  injection e5 with e5
  injection e5 with e5
  subst e5 e7
  exact⟨g,cur,e1,hg,h2,k1,k2,k3,by rw[k4];exact h3,h4⟩
theorem zhW {e b i T n c:Nat} [hT:SlT P t e 1 b] {k:IntKind} {a:Int} {j:Nat} {es:List (List RV)} (hx:evA env x= .ow i) (hH:H i=some (.rowk T 1 es n c)) (hy:evA env y= .r (.v (.int k a))) (ha:a=(j:Int)) (hj:j≤n) (hn:n≤c) (hjc:j<c) (hne:es≠[]):
  zav P ⟨d,.slice t x (some y) none none,ty,pos,af,g⟩ env H [(i,.rowk T 1 es n c)] (.so i j (n-j) (c-j)):=by
 subst ha
 refine⟨fun i b h=>by obtain⟨rfl,rfl⟩:=mem1 h;exact hH,fun i hi=>(zbZ hx i (by simpa[AV.ids]using hi)).imp id fun⟨_,_,h,_⟩=>zaH h,fun ac w Z M hr hh=>?_⟩
 have h1:=hr x (by simp[Op.operands])
 have h2:=ev_v hy (hr y (by simp[Op.operands]))
 rw[hx,AV.rep]at h1
 obtain⟨g,cur,e1,hg,k0,k1,k2,_⟩:=zff (hh i _ List.mem_cons_self) hne
 have :=zfx (P:=P) (t:=t) (some ⟨g,0,none⟩) n c j n (some (.int k (j:Int))) none (.inr ⟨k,rfl⟩) (.inl ⟨rfl,rfl⟩) hj (Nat.le_refl _) hn w
 have hz:(if c=j then some (⟨g,0,none⟩:Addr)else(some ⟨g,0,none⟩:Option Addr).map (·.add (j*1)))=some ⟨g,j,none⟩:=by
  rw[if_neg (by omega)]
  simp[Addr.add]
  exact fun h=>h.symm
 rw[hz]at this
 refine⟨.slice (some ⟨g,j,none⟩) (n-j) (c-j),?_,by rw[AV.rep];exact⟨g,by rw[e1];rfl,rfl⟩⟩
 simp only[execOp,h1,e1,Option.map_some,Option.map_none,h2,Sem.run_bind,this,Result.andThen_ok,Sem.run_pure]
theorem zhV {e b i T n c:Nat} [hT:SlT P t e 1 b] {k:IntKind} {a:Int} {m:Nat} {es:List (List RV)} (hx:evA env x= .ow i) (hH:H i=some (.rowk T 1 es n c)) (hy:evA env y= .r (.v (.int k a))) (ha:a=(m:Int)) (hm:m≤n) (hn:n≤c) (hne:es≠[]):
  zav P ⟨d,.slice t x none (some y) none,ty,pos,af,g⟩ env H [(i,.rowk T 1 es n c)] (.ol i m):=by
 subst ha
 refine⟨fun i b h=>by obtain⟨rfl,rfl⟩:=mem1 h;exact hH,fun i hi=>(zbZ hx i (by simpa[AV.ids]using hi)).imp id fun⟨_,_,h,_⟩=>zaH h,fun ac w Z M hr hh=>?_⟩
 have h1:=hr x (by simp[Op.operands])
 have h2:=ev_v hy (hr y (by simp[Op.operands]))
 rw[hx,AV.rep]at h1
 obtain⟨g,cur,e1,hg,k0,k1,k2,_⟩:=zff (hh i _ List.mem_cons_self) hne
 have :=zfx (P:=P) (t:=t) (some ⟨g,0,none⟩) n c 0 m none (some (.int k (m:Int))) (.inl ⟨rfl,rfl⟩) (.inr ⟨k,rfl⟩) (Nat.zero_le _) hm hn w
 have hz:(if c=0 then some (⟨g,0,none⟩:Addr)else(some ⟨g,0,none⟩:Option Addr).map (·.add (0*1)))=some ⟨g,0,none⟩:=by
  split
  ·rfl
  ·simp[Addr.add]
 rw[hz,Nat.sub_zero,Nat.sub_zero]at this
 refine⟨.slice (some ⟨g,0,none⟩) m c,?_,by rw[AV.rep];exact⟨g,_,c,e1,rfl⟩⟩
 simp only[execOp,h1,e1,Option.map_some,Option.map_none,h2,Sem.run_bind,this,Result.andThen_ok,Sem.run_pure]
end
section
variable {P:Program} {L:Ln} {N:Nat} {ops:Array Oper} {chk:List (Nat×Sp)→Bool} {Q:St→Prop} {E:List (Nat×AV)} {H:List (Nat×Option Blk)} {n:Nat} {tr:List (Nat×Sp)} {l:List Oper}
variable {ty:TypeId} {pos:String} {af:Array Edge} {g:Option (Nat×Bool)} {t t':TypeId} {x y:Operand} {d:Nat}
def lk (b:Blk) (T:Nat) (es:List (List RV)):Prop:=b= .row T 1 es∨∃c,b= .rowk T 1 es es.length c
theorem zj2 {Z:Nat→Value} {M:Nat→Prop} {w:World} {i T:Nat} {b:Blk} {es:List (List RV)} (hb:lk b T es) (h:held Z M w i b) (hne:es≠[]):
  ∃g c cur,Z i= .slice (some ⟨g,0,none⟩) es.length c∧w.heap[g]? =some (.cells cur T (0,0))∧es.length≤c∧c≤maxLen∧cur.size=c∧RVs M w es.flatten (cur.toList.take es.length)∧∀e∈es,e.length=1:=by
 rcases hb with rfl|⟨c,rfl⟩
 ·obtain⟨g,cap,cur,us,e1,hg,k1,k2,k3,k4,_,k5,k6⟩:=zdQ h hne
  exact⟨g,cap,cur,e1,hg,k1,k2,by omega,by rw[Nat.mul_one]at k4;rw[k4];exact k5,k6⟩
 ·obtain⟨g,cur,e1,hg,_,k1,k2,k3,k4,k5⟩:=zff h hne
  exact⟨g,c,cur,e1,hg,k1,k2,by omega,by rw[Nat.mul_one]at k4;exact k4,k5⟩
theorem zgZ:∀{es:List (List RV)},(∀e∈es,e.length=1)→es.flatten.length=es.length
 |[],_=>rfl
 |e::es,h=>by rw[List.flatten_cons,List.length_append,h e (by simp),zgZ fun x hx=>h x (by simp[hx]),List.length_cons];omega
theorem zdN:∀{es:List (List RV)} (k:Nat),(∀e∈es,e.length=1)→(es.take k).flatten=es.flatten.take k
 |[],k,_=>by simp
 |e::es,0,_=>by simp
 |e::es,k+1,h=>by
  have h1:=h e (by simp)
  match e,h1 with
  |[c],_=>rw[List.take_succ_cons,List.flatten_cons,List.flatten_cons,List.singleton_append,List.singleton_append,List.take_succ_cons,zdN k fun x hx=>h x (by simp[hx])]
theorem zgY:∀{es:List (List RV)} (k:Nat),(∀e∈es,e.length=1)→(es.drop k).flatten=es.flatten.drop k
 |[],k,_=>by simp
 |e::es,0,_=>by simp
 |e::es,k+1,h=>by
  have h1:=h e (by simp)
  match e,h1 with
  |[c],_=>rw[List.drop_succ_cons,List.flatten_cons,List.singleton_append,List.drop_succ_cons,zgY k fun x hx=>h x (by simp[hx])]
theorem zmc {B:Nat→Prop} {w:World} {cs:List RV} {us:List Value} (h:RVs B w cs us):∀k,RVs B w (cs.drop k) (us.drop k):=by
 induction h with
 |nil=>intro k;simpa using RVs.nil
 |cons h1 h2 h3 ih=>
  intro k
  cases k with
  |zero=>exact .cons h1 h2 h3
  |succ k=>exact ih k
theorem RVs.ones {B:Nat→Prop} {w:World} {cs:List RV} {us:List Value} (h:RVs B w cs us):us.all (·.oneCell')=true:=by
 induction h with
 |nil=>rfl
 |cons h1 _ _ ih=>rw[List.all_cons,h1,ih];rfl
theorem zla {i j o m c h T T2 e b q:Nat} {bj:Blk} {es fs es':List (List RV)} [hT:SlT P t e 1 b] (hx:(evA (get E) x= .ow i∧o=0∧m=es.length)∨∃c',evA (get E) x= .so i o m c') (hy:(evA (get E) y= .ow j∧h=fs.length)∨evA (get E) y= .ol j h)
  (hH:getH H i=some (.rowk T 1 es es.length c)) (hJ:getH H j=some bj) (hbj:lk bj T2 fs) (hne:es≠[]) (hnf:fs≠[]) (hq:Nat.min h m=q) (hqf:q≤fs.length) (hoq:o+q≤es.length) (hE:es.take o++fs.take q++es.drop (o+q)=es')
  (hd:Nat.blt d N=true) (hg:za3 ops (get E) ⟨some d,.call { callee:=.builtin .copy,args:= #[x,y],argTypes:= #[t,t']},ty,pos,af,g⟩ true)
  (hh':wpA P L N ops chk Q l ⟨(d,.r (.v (.int .i64 q)))::E,(i,some (.rowk T 1 es' es'.length c))::H,n⟩ ((n,⟨true,[(i,.rowk T 1 es es.length c),(j,bj)],.r (.v (.int .i64 q)),[(i,some (.rowk T 1 es' es'.length c))],[]⟩)::tr)):
  wpA P L N ops chk Q (⟨some d,.call { callee:=.builtin .copy,args:= #[x,y],argTypes:= #[t,t']},ty,pos,af,g⟩::l) ⟨E,H,n⟩ tr:=by
 have hbi:lk (.rowk T 1 es es.length c) T es:=.inr ⟨c,rfl⟩
 have hids:bj.ids=[]:=by rcases hbj with rfl|⟨_,rfl⟩<;>rfl
 refine⟨⟨true,[(i,.rowk T 1 es es.length c),(j,bj)],.r (.v (.int .i64 q)),[(i,some (.rowk T 1 es' es'.length c))],[]⟩,⟨(fun x hx=>by injection hx with hx;subst hx;exact za2.1 hd),hg,fun _ ac w Z M hM hr hh hdist=>?_,(fun h=>by cases h),fun D hD hDH hf=>?_⟩,hh'⟩
 ·have hxr:(evA (get E) x).rep Z M w (ac.eval x):=hr x (by simp[Op.operands,Call.operands])
  have hyr:(evA (get E) y).rep Z M w (ac.eval y):=hr y (by simp[Op.operands,Call.operands])
  obtain⟨hheld,hMi⟩:=hh i (.rowk T 1 es es.length c) (by simp)
  obtain⟨hheld2,hMj⟩:=hh j bj (by simp)
  have hheld0:=hheld
  obtain⟨g1,c1,cur,e1,hg1,k1,k2,k3,k4,k5⟩:=zj2 hbi hheld hne
  obtain⟨g2,c2,cur2,e2,hg2,m1,m2,m3,m4,m5⟩:=zj2 hbj hheld2 hnf
  obtain⟨cx,ex⟩:∃cx,ac.eval x= .slice (some ⟨g1,o,none⟩) m cx:=by
   rcases hx with⟨hx,ho,hm⟩|⟨c',hx⟩
   ·rw[hx,AV.rep]at hxr;subst ho hm;exact⟨_,hxr.trans e1⟩
   ·rw[hx,AV.rep]at hxr
    obtain⟨b1,hb1,ex⟩:=hxr
    rw[e1]at hb1;simp only[blk,Option.some.injEq]at hb1;subst hb1
    exact⟨_,ex⟩
  obtain⟨cy,ey⟩:∃cy,ac.eval y= .slice (some ⟨g2,0,none⟩) h cy:=by
   rcases hy with⟨hy,hm⟩|hy
   ·rw[hy,AV.rep]at hyr;subst hm;exact⟨_,hyr.trans e2⟩
   ·rw[hy,AV.rep]at hyr
    obtain⟨gg,mm,cc,f1,f2⟩:=hyr
    rw[e2]at f1
    injection f1 with f3 f4 f5
    injection f3 with f3
    injection f3 with f3
    subst f3
    exact⟨_,f2⟩
  have hvr:RVs M w (fs.take q).flatten ((cur2.toList.take fs.length).take q):=by rw[zdN q m5];exact m4.take q
  generalize hnews:(cur2.toList.take fs.length).take q=news at hvr
  have hnl:news.length=q:=by rw[←hvr.len,zdN q m5,List.length_take,zgZ m5];omega
  obtain⟨w',us',h7,h8,h9,h10⟩:=zcs (P:=P) (b:=g1) (o:=o) (T:=T) news 0 cur w hg1 (by omega) hvr.ones
  have hld:=run_loadCells_list (P:=P) w ⟨g2,0,none⟩ news (fun k v hk=>by
   rw[add_mid,cell_of_row w g2 _ cur2 T2 (0,0) hg2]
   rw[←hnews,List.getElem?_take]at hk
   split at hk
   ·rw[List.getElem?_take]at hk
    split at hk
    ·simpa using hk
    ·cases hk
   ·cases hk)
  have hun:=SlT.und (P:=P) (t:=t) (e:=e) (sz:=1) (b:=b)
  obtain⟨ti,z,t1,t2,t3,t4,t5⟩:=SlT.inf (P:=P) (t:=t) (e:=e) (sz:=1) (b:=b)
  have hcp:(Builtin.copy_ #[t,t'] ty #[.slice (some ⟨g1,o,none⟩) m cx,.slice (some ⟨g2,0,none⟩) h cy]).run P w= .ok (goInt q) w':=by
   rw[hnl]at hld
   simp[Builtin.copy_,run_underlying hun,Builtin.lenOf,Builtin.firstCells,sizeOf,typeInfo,t1,t3,hq,hld,h7]
  have hex:(execOp ac.eval ⟨some d,.call { callee:=.builtin .copy,args:= #[x,y],argTypes:= #[t,t']},ty,pos,af,g⟩).run P w= .ok (.value (goInt q)) w':=by
   simp only[execOp,resolve,invoke,builtin,Sem.run_bind,Sem.run_pure,Result.andThen_ok,List.map_toArray,List.map_cons,List.map_nil,ex,ey,hcp]
  have hU:Upto M w w':=h10.mono fun q _ hq=>by subst hq;exact hMi _ (by rw[e1];rfl)
  refine zc2 hex ⟨Z,fun _ _=>rfl,by rw[AV.rep,RV.rep];rfl,fun i' c' hi=>?_,fun j' b' h=>by simp at h,fun j' j'' x' h=>by simp at h,fun j' x' h=>by simp at h,?_⟩
  ·simp only[List.mem_cons,List.not_mem_nil,or_false,Prod.mk.injEq,Option.some.injEq]at hi
   obtain⟨rfl,rfl⟩:=hi
   have hc:c1=c:=by
    obtain⟨g0,us0,f1,_⟩:=hheld0
    rw[e1]at f1
    injection f1
   subst hc
   have hcl:cur.toList.length=cur.size:=Array.length_toList
   have hl':es'.length=es.length:=by rw[←hE];simp only[List.length_append,List.length_take,List.length_drop];omega
   have hsz:us'.size=cur.size:=by rw[←Array.length_toList,h9,zd4 _ _ _ (by omega),hcl]
   have hus:us'.toList.take es.length=setA (cur.toList.take es.length) o news:=by rw[h9,Nat.add_zero];exact zhj _ _ _ _ (by omega) (by omega)
   have hNew:∀p,New n ⟨true,[(i',.rowk T 1 es es.length c1),(j,bj)],.r (.v (.int .i64 q)),[(i',some (.rowk T 1 es' es'.length c1))],[]⟩ Z M p→M p:=fun p hp=>zfj rfl hp
   have m1':=k4.mono hU (fun q _ hq=>hNew q hq)
   have m2':=hvr.mono hU (fun q _ hq=>hNew q hq)
   have hones:∀e∈es',e.length=1:=by
    intro e he
    rw[←hE]at he
    rcases List.mem_append.1 he with he|he
    ·rcases List.mem_append.1 he with he|he
     ·exact k5 e (List.mem_of_mem_take he)
     ·exact m5 e (List.mem_of_mem_take he)
    ·exact k5 e (List.mem_of_mem_drop he)
   refine⟨g1,us'.toList.take es'.length,by rw[hl'];exact e1,⟨?_,.inr ⟨g1,c1,us',rfl,Nat.zero_le _,h8,by omega,k2,by omega,by rw[Nat.mul_one]⟩⟩,Nat.le_refl _,?_,hones⟩
   ·have hle:es'.length≤us'.size:=by rw[hsz,k3,hl'];exact k1
    have h5:us'.toList.length=us'.size:=Array.length_toList
    rw[List.length_take,h5]
    omega
   ·rw[hl',hus,←hE,List.flatten_append,List.flatten_append,zdN o k5,zgY (o+q) k5]
    unfold setA
    rw[hnl]
    exact(((m1'.take o).append m2').append (zmc m1' (o+q)))
  ·refine h10.mono fun p _ hp=>?_
   subst hp
   exact⟨i,some (.rowk T 1 es' es'.length c),by simp,by rw[e1];rfl⟩
 ·refine⟨fun i' b' hb=>?_,fun i' o' ho=>?_,fun i' o' ho=>?_,fun i' ho=>?_,hf,fun i' hi=>by simp[AV.ids]at hi,fun b h=>by simp at h,fun i' b' hb i'' hi'=>.inl ?_⟩
  ·simp only[List.mem_cons,List.not_mem_nil,or_false,Prod.mk.injEq]at hb
   rcases hb with⟨rfl,rfl⟩|⟨rfl,rfl⟩
   ·exact hH
   ·exact hJ
  ·simp only[List.mem_cons,List.not_mem_nil,or_false,Prod.mk.injEq]at ho
   obtain⟨rfl,rfl⟩:=ho
   exact⟨_,List.mem_cons_self⟩
  ·simp only[List.mem_cons,List.not_mem_nil,or_false,Prod.mk.injEq]at ho
   obtain⟨rfl,rfl⟩:=ho
   exact by simp[List.lookup_cons]
  ·simp at ho
  ·simp only[List.mem_cons,List.not_mem_nil,or_false,Prod.mk.injEq,Option.some.injEq]at hb
   obtain⟨rfl,rfl⟩:=hb
   simp[Blk.ids]at hi'
end
theorem ziU {P:Program} {L:Ln} {N:Nat} {c:Code} {Q:Exit→St→Prop} {E:List (Nat×AV)} {H:List (Nat×Option Blk)} {n i T sz cap:Nat} {es:List (List RV)} (hi:getH H i=some (.rowk T sz es es.length cap))
  (h:awp P L N c Q ⟨E,(i,some (.row T sz es))::H,n⟩):awp P L N c Q ⟨E,H,n⟩:=by
 intro C h1 h2 h3 a w ⟨Z,S⟩
 obtain⟨⟨g,us,hz,g1,_,g2,g3⟩,g4,g5⟩:=S.holds i _ hi
 refine h C h1 h2 h3 a w ⟨Z,?_⟩
 have hH:∀j,St.HF ⟨E,(i,some (.row T sz es))::H,n⟩ j=if i=j then some (.row T sz es)else getH H j:=fun j=>zcN i j _ _
 have hold:∀j b,St.HF ⟨E,(i,some (.row T sz es))::H,n⟩ j=some b→∃b',getH H j=some b':=by
  intro j b hj
  rw[hH]at hj
  split at hj
  ·rename_i e;subst e;exact⟨_,hi⟩
  ·exact⟨b,hj⟩
 have hO:Own C (St.HF ⟨E,(i,some (.row T sz es))::H,n⟩) Z=Own C (St.HF ⟨E,H,n⟩) Z:=by
  funext x
  apply propext
  constructor
  ·rintro(h0|⟨j,b,hj,hjx⟩)
   ·exact .inl h0
   ·obtain⟨b',hb'⟩:=hold j b hj
    exact .inr ⟨j,b',hb',hjx⟩
  ·rintro(h0|⟨j,b,hj,hjx⟩)
   ·exact .inl h0
   ·by_cases e:i=j
    ·exact .inr ⟨j,_,by rw[hH,if_pos e],hjx⟩
    ·exact .inr ⟨j,b,by rw[hH,if_neg e];exact hj,hjx⟩
 refine⟨S.size,S.defers,S.frame,S.m0,fun t=>?_,S.ids,fun j b hj=>?_,fun j j' b c hj hj'=>?_,fun j b x hj=>?_,S.lm,S.zl⟩
 ·rw[hO];exact S.slots t
 ·rw[hO]
  rw[hH]at hj
  split at hj
  ·rename_i e
   subst e
   injection hj with hj
   subst hj
   exact⟨⟨us,by rw[hz];exact g1,g2,g3⟩,g4,fun q hq=>by simp[Blk.ids]at hq⟩
  ·exact S.holds j b hj
 ·obtain⟨b',hb'⟩:=hold j b hj
  obtain⟨c',hc'⟩:=hold j' c hj'
  exact S.dist j j' b' c' hb' hc'
 ·obtain⟨b',hb'⟩:=hold j b hj
  exact S.fresh j b' x hb'
theorem zam.freeze3 {P:Program} {f:FuncId} {args:List AV} {T sz:Nat} {es:List (List RV)} {y1 y2:Value} (h:zam P f args [] (.tu [.fr T sz es,.r (.v y1),.r (.v y2)]) []):zam P f args [] (.tu [.r (.sl sz es),.r (.v y1),.r (.v y2)]) []:=by
 intro w Z M k us hM hk hargs hpre hd
 refine(h w Z M k us hM hk hargs hpre hd).mono fun e w' ⟨v,he,Z',A⟩=>⟨v,he,Z,fun _ _=>rfl,?_,fun i b h=>by simp[zaq,zaM]at h,fun j b h=>by simp[zaq,AV.unfr,AV.unfrs]at h,fun j j' x h=>by simp[zaq,AV.unfr,AV.unfrs]at h,fun j x h=>by simp[zaq,AV.unfr,AV.unfrs]at h,A.upto⟩
 have h1:=A.out
 have h2:=A.fr 0 (.row T sz es) (by simp[zaq,AV.unfr,AV.unfrs])
 have h3:=A.fresh 0
 simp only[zaq,AV.unfr,AV.unfrs,AV.rep,AV.reps,Nat.add_zero]at h1 h2 h3 ⊢
 obtain⟨us',e1,u,us2,e2,h5,e3⟩:=h1
 refine⟨us',e1,u,us2,e2,?_,?_⟩
 ·rw[h5]
  refine zeX h2 (fun q _ hq=>hq.imp (fun h=>h) (fun⟨j,hj,_⟩=>by simp at hj)) fun x hx hn=>?_
  have h4:=h3 x (by simp) hx
  rcases hn with h0|⟨j,hj,_⟩
  ·rcases h4 with h4|⟨i,hi,_⟩
   ·have :=hM x h0;omega
   ·simp[zaM]at hi
  ·simp at hj
 ·obtain⟨u1',us1',f1,g1,u2',us2',f2,g2,e5⟩:=e3
  exact⟨u1',us1',f1,(by rw[RV.rep]at g1 ⊢;exact g1),u2',us2',f2,(by rw[RV.rep]at g2 ⊢;exact g2),e5⟩
theorem zam.freeze4 {P:Program} {f:FuncId} {args:List AV} {T sz:Nat} {es:List (List RV)} {y1 y2 y3:Value} (h:zam P f args [] (.tu [.fr T sz es,.r (.v y1),.r (.v y2),.r (.v y3)]) []):zam P f args [] (.tu [.r (.sl sz es),.r (.v y1),.r (.v y2),.r (.v y3)]) []:=by
 intro w Z M k us hM hk hargs hpre hd
 refine(h w Z M k us hM hk hargs hpre hd).mono fun e w' ⟨v,he,Z',A⟩=>⟨v,he,Z,fun _ _=>rfl,?_,fun i b h=>by simp[zaq,zaM]at h,fun j b h=>by simp[zaq,AV.unfr,AV.unfrs]at h,fun j j' x h=>by simp[zaq,AV.unfr,AV.unfrs]at h,fun j x h=>by simp[zaq,AV.unfr,AV.unfrs]at h,A.upto⟩
 have h1:=A.out
 have h2:=A.fr 0 (.row T sz es) (by simp[zaq,AV.unfr,AV.unfrs])
 have h3:=A.fresh 0
 simp only[zaq,AV.unfr,AV.unfrs,AV.rep,AV.reps,Nat.add_zero]at h1 h2 h3 ⊢
 obtain⟨us',e1,u,us2,e2,h5,e3⟩:=h1
 refine⟨us',e1,u,us2,e2,?_,?_⟩
 ·rw[h5]
  refine zeX h2 (fun q _ hq=>hq.imp (fun h=>h) (fun⟨j,hj,_⟩=>by simp at hj)) fun x hx hn=>?_
  have h4:=h3 x (by simp) hx
  rcases hn with h0|⟨j,hj,_⟩
  ·rcases h4 with h4|⟨i,hi,_⟩
   ·have :=hM x h0;omega
   ·simp[zaM]at hi
  ·simp at hj
 ·obtain⟨u1',us1',f1,g1,u2',us2',f2,g2,u3',us3',f3,g3,e5⟩:=e3
  exact⟨u1',us1',f1,(by rw[RV.rep]at g1 ⊢;exact g1),u2',us2',f2,(by rw[RV.rep]at g2 ⊢;exact g2),u3',us3',f3,(by rw[RV.rep]at g3 ⊢;exact g3),e5⟩
end Go.Ab
