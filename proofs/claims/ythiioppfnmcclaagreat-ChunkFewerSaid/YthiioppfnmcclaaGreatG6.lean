/- Texts of the second layer in one: Ab28 Ab29 Ab30. -/
import Derived.Test.YthiioppfnmcclaaGreatG4
set_option linter.unusedVariables false
set_option linter.unusedSimpArgs false
namespace Go.Ab
open Go.RowKit
section
variable {P:Program} {env:Nat→AV} {H:Nat→Option Blk} {d:Option Tmp} {ty:TypeId} {pos:String} {af:Array Edge} {g:Option (Nat×Bool)}
variable {t:TypeId} {x y:Operand} {sz:Nat} {es:List (List RV)} {cs:List AV}
end
def zon:AV→Bool
 |.ag _=>false
 |_=>true
def zhe (rd:List (Nat×Blk)) (cs:List AV):Bool:=cs.all fun c=>zfn rd c && zon c
def rowsOf (H:Nat→Option Blk):List AV→List (Nat×Blk)
 |[]=>[]
 |.ow j::cs=>(match H j with |some b=>[(j,b)]|none=>[])++rowsOf H cs
 |_::cs=>rowsOf H cs
theorem zgz {H:Nat→Option Blk} {i:Nat} {b:Blk}:∀{cs:List AV},(i,b)∈rowsOf H cs→H i=some b
 |[],h=>by cases h
 |c::cs,h=>by
  cases c with
  |ow j=>
   rw[rowsOf,List.mem_append]at h
   rcases h with h|h
   ·cases hj:H j with
    |none=>rw[hj]at h;cases h
    |some b'=>rw[hj]at h;obtain⟨rfl,rfl⟩:=mem1 h;exact hj
   ·exact zgz h
  |_=>exact zgz (cs:=cs) (by simpa[rowsOf]using h)
theorem ziy {Z:Nat→Value} {B:Nat→Prop} {w:World} {rd:List (Nat×Blk)} {c:AV} {v:Value} (ho:(zfn rd c && zon c)=true) (hh:∀i b,(i,b)∈rd→held Z B w i b) (hr:c.rep Z B w v):v.oneCell'=true∧v.cells= #[v]:=by
 rw[Bool.and_eq_true]at ho
 obtain⟨h1,h2⟩:=ho
 have hv:valB c=true→v.oneCell'=true∧v.cells= #[v]:=fun h=>by
  have :=(zbV hr h).2 (by rintro cs rfl;cases h2)
  exact⟨this.2,this.1⟩
 cases c with
 |ow i=>
  simp only[zfn,List.any_eq_true,Bool.and_eq_true]at h1
  obtain⟨⟨j,b⟩,h3,h4,_⟩:=h1
  have :=Nat.eq_of_beq_eq_true h4
  simp only at this
  subst this
  rw[AV.rep]at hr
  subst hr
  exact zni (hh _ _ h3)
 |_=>exact hv h1
theorem parts_all {Z:Nat→Value} {B:Nat→Prop} {w:World} {rd:List (Nat×Blk)} (hh:∀i b,(i,b)∈rd→held Z B w i b):∀{cs:List AV} {us:List Value},zhe rd cs=true→AV.reps Z B w cs us→us.all (·.oneCell')=true
 |[],us,_,h=>by rw[AV.reps]at h;subst h;rfl
 |c::cs,us,ho,h=>by
  rw[AV.reps]at h
  obtain⟨u,us',rfl,h1,h2⟩:=h
  rw[zhe,List.all_cons,Bool.and_eq_true]at ho
  rw[List.all_cons,(ziy ho.1 hh h1).1,parts_all hh ho.2 h2]
  rfl
structure zf6 (env:Nat→AV) (H:Nat→Option Blk) (y:Operand) (ds:List AV) (rd:List (Nat×Blk)):Prop where
 ex:∃a,evA env y=a∧ds=cellsA a
 rdE:rowsOf H ds=rd
 ok:zhe rd ds=true
section
variable {env:Nat→AV} {H:Nat→Option Blk} {y:Operand} {ds:List AV} {rd:List (Nat×Blk)}
theorem zf6.of {a:AV} (hx:evA env y=a) (hr:rowsOf H (cellsA a)=rd) (ho:zhe rd (cellsA a)=true):zf6 env H y (cellsA a) rd:=⟨⟨a,hx,rfl⟩,hr,ho⟩
theorem zf6.rdH (h:zf6 env H y ds rd):∀i b,(i,b)∈rd→H i=some b:=fun i b hi=>zgz (by rw[h.rdE];exact hi)
theorem zf6.ids (h:zf6 env H y ds rd):∀i∈AV.idss ds,(∃t,i∈(env t).ids):=by
 intro i hi
 obtain⟨a,h1,rfl⟩:=h.ex
 rcases zbZ h1 i (zc4 i hi)with h|⟨_,_,h,_⟩
 ·exact h
 ·exact zaH h
theorem zf6.rep (h:zf6 env H y ds rd) {Z:Nat→Value} {M:Nat→Prop} {w:World} {v:Value} (hr:(evA env y).rep Z M w v) (hh:∀i b,(i,b)∈rd→held Z M w i b):AV.reps Z M w ds v.cells.toList∧v.cells.toList.all (·.oneCell')=true:=by
 obtain⟨a,h1,rfl⟩:=h.ex
 have h2:=h.ok
 rw[h1]at hr
 have h3:AV.reps Z M w (cellsA a) v.cells.toList:=by
  cases a with
  |ag cs=>exact(zbV hr rfl).1
  |_=>
   simp only[cellsA,zhe,List.all_cons,List.all_nil,Bool.and_true]at h2 ⊢
   have :=ziy (by first|exact h2|simpa using h2) hh hr
   rw[this.2]
   show AV.reps Z M w [_] [v]
   rw[AV.reps]
   exact⟨_,_,rfl,hr,by rw[AV.reps]⟩
 exact⟨h3,parts_all hh h2 h3⟩
end
section
variable {P:Program} {L:Ln} {N:Nat} {ops:Array Oper} {chk:List (Nat×Sp)→Bool} {Q:St→Prop} {l:List Oper} {E:List (Nat×AV)} {H:List (Nat×Option Blk)} {n:Nat} {tr:List (Nat×Sp)}
variable {d:Nat} {ty:TypeId} {pos:String} {af:Array Edge} {g:Option (Nat×Bool)} {t:TypeId} {x y:Operand}
theorem zfE {j o T m:Nat} {cs ds:List AV} {rd:List (Nat×Blk)} (hx:evA (get E) x= .pt j o) (hH:getH H j=some (.var T cs)) (hy:zf6 (get E) (getH H) y ds rd) (hs:(P.info? t).map (·.size)=some m) (hm:ds.length=m) (hn:Nat.ble (o+m) cs.length=true)
  (hg:za3 ops (get E) ⟨none,.store t x y,ty,pos,af,g⟩ true)
  (h:wpA P L N ops chk Q l ⟨E,(j,some (.var T (setA cs o ds)))::H,n⟩ ((n,⟨true,(j,.var T cs)::rd,.r (.v undef),[(j,some (.var T (setA cs o ds)))],[]⟩)::tr)):
  wpA P L N ops chk Q (⟨none,.store t x y,ty,pos,af,g⟩::l) ⟨E,H,n⟩ tr:=by
 have hn:=zbv.1 hn
 refine⟨⟨true,(j,.var T cs)::rd,.r (.v undef),[(j,some (.var T (setA cs o ds)))],[]⟩,⟨(fun x hx=>by cases hx),hg,fun _ ac w Z M hM hr hh hdist=>?_,(fun h=>by cases h),fun D hD hDH hf=>?_⟩,h⟩
 ·have hxr:(evA (get E) x).rep Z M w (ac.eval x):=hr x (by simp[Op.operands])
  have hyr:(evA (get E) y).rep Z M w (ac.eval y):=hr y (by simp[Op.operands])
  rw[hx,AV.rep]at hxr
  obtain⟨hheld,hMj⟩:=hh j (.var T cs) (by simp)
  obtain⟨hcr,hall⟩:=hy.rep hyr (fun j b hj=>(hh j b (List.mem_cons_of_mem _ hj)).1)
  obtain⟨b,us,h2,h3,h4,h5,h6⟩:=zeM hheld hxr
  have hlen:=AV.reps_len h5
  have hlen2:=AV.reps_len hcr
  simp only[Array.length_toList]at hlen hlen2
  obtain⟨w',us',h7,h8,h9,h10⟩:=zcs (P:=P) (b:=b) (o:=o) (T:=T) (ac.eval y).cells.toList 0 us w h4 (by simp;omega) hall
  have hsz:(sizeOf t).run P w= .ok (ac.eval y).cells.size w:=by rw[run_sizeOf hs,←hlen2,hm]
  have hex:(execOp ac.eval ⟨none,.store t x y,ty,pos,af,g⟩).run P w= .ok .skip w':=by
   have :(storeVar t ⟨b,o,none⟩ (ac.eval y)).run P w= .ok () w':=by
    simp only[storeVar,Sem.run_bind,hsz,Result.andThen_ok]
    simp[h7]
   simp only[execOp,h3,Instr.storeAt,Instr.sureAddr,Sem.run_bind,Sem.run_pure,Result.andThen_ok,this]
  have hU:Upto M w w':=h10.mono fun q _ hq=>by subst hq;exact hMj _ (by rw[h2];rfl)
  have hNew:∀p,New n ⟨true,(j,.var T cs)::rd,.r (.v undef),[(j,some (.var T (setA cs o ds)))],[]⟩ Z M p→M p:=fun q hq=>zfj rfl hq
  refine zfd hex ⟨Z,fun _ _=>rfl,by rw[AV.rep,RV.rep],fun i c hi=>?_,fun j b h=>by simp at h,fun j j' x h=>by simp at h,fun j x h=>by simp at h,?_⟩
  ·simp only[List.mem_cons,List.not_mem_nil,or_false,Prod.mk.injEq,Option.some.injEq]at hi
   obtain⟨rfl,rfl⟩:=hi
   refine⟨b,us',h2,h8,?_,?_⟩
   ·rw[h9,Nat.add_zero]
    have m1:=AV.reps_mono hU (fun q _ hq=>hNew q hq) cs (fun _ _=>rfl) _ h5
    have m2:=AV.reps_mono hU (fun q _ hq=>hNew q hq) ds (fun _ _=>rfl) _ hcr
    unfold setA
    rw[show(ac.eval y).cells.toList.length=ds.length by simp;omega]
    exact zbd (zbd (zcS o m1) m2) (zcR _ m1)
   ·rw[ze3,h9]
    unfold setA
    rw[ze3]at h6
    rw[List.all_append,List.all_append,hall]
    simp only[List.all_eq_true]at h6 ⊢
    simp only[Bool.and_true,Bool.and_eq_true,List.all_eq_true]
    exact⟨fun u hu=>h6 u (List.mem_of_mem_take hu),fun u hu=>h6 u (List.mem_of_mem_drop hu)⟩
  ·refine h10.mono fun q _ hq=>?_
   subst hq
   exact⟨j,some (.var T (setA cs o ds)),by simp,by rw[h2];rfl⟩
 ·refine⟨fun i b hb=>?_,fun i o' ho=>?_,fun i o' ho=>?_,fun i ho=>?_,hf,fun i hi=>by simp[AV.ids]at hi,fun b h=>by simp at h,fun i b hb i' hi'=>.inl ?_⟩
  ·rcases List.mem_cons.1 hb with e1|e1
   ·injection e1 with e1 e2;subst e1 e2;exact hH
   ·exact hy.rdH i b e1
  ·simp only[List.mem_cons,List.not_mem_nil,or_false,Prod.mk.injEq]at ho
   obtain⟨rfl,rfl⟩:=ho
   exact⟨.var T cs,by simp⟩
  ·simp only[List.mem_cons,List.not_mem_nil,or_false,Prod.mk.injEq]at ho
   obtain⟨rfl,rfl⟩:=ho
   exact by simp[List.lookup_cons]
  ·simp at ho
  ·simp only[List.mem_cons,List.not_mem_nil,or_false,Prod.mk.injEq,Option.some.injEq]at hb
   obtain⟨rfl,rfl⟩:=hb
   rw[Blk.ids,setA,zb8]at hi'
   obtain⟨c,hc,hci⟩:=hi'
   rw[List.mem_append,List.mem_append]at hc
   rcases hc with(hc|hc)|hc
   ·exact(hDH _ _ hH).2 i' (za5 (List.mem_of_mem_take hc) hci)
   ·obtain⟨t',ht'⟩:=hy.ids i' (za5 hc hci)
    exact hD t' i' ht'
   ·exact(hDH _ _ hH).2 i' (za5 (List.mem_of_mem_drop hc) hci)
end
/-! ## Other numbers -/
mutual
def AV.ren (f:Nat→Nat):AV→AV
 |.ow i=>.ow (f i)
 |.pt i o=>.pt (f i) o
 |.pe i sz k q=>.pe (f i) sz k q
 |.ol i n=>.ol (f i) n
 |.sv i n=>.sv (f i) n
 |.so i o n c=>.so (f i) o n c
 |.cl g cs=>.cl g (AV.rens f cs)
 |.ag cs=>.ag (AV.rens f cs)
 |.tu cs=>.tu (AV.rens f cs)
 |.r c=>.r c
 |.rp cs=>.rp cs
 |.fr T sz es=>.fr T sz es
 |.na=>.na
def AV.rens (f:Nat→Nat):List AV→List AV
 |[]=>[]
 |c::cs=>AV.ren f c::AV.rens f cs
end
section
variable {Z Z':Nat→Value} {B B':Nat→Prop} {w:World} {f:Nat→Nat}
mutual
theorem AV.rep_ren (hB:∀k,k<w.heap.size→B' k→B k):∀(c:AV) (_:∀i∈c.ids,Z' (f i)=Z i) (u:Value),AV.rep Z B w c u→AV.rep Z' B' w (c.ren f) u
 |.r c,_,u,h=>by rw[AV.rep]at h;rw[AV.ren,AV.rep];exact RV.rep_mono (Upto.refl _) hB c u h
 |.rp cs,_,u,h=>AV.rep_mono (Upto.refl _) hB (.rp cs) (fun i hi=>by simp[AV.ids]at hi) _ h
 |.ow i,hz,u,h=>by rw[AV.rep]at h;rw[AV.ren,AV.rep,hz i (by simp[AV.ids])];exact h
 |.pt i o,hz,u,h=>by rw[AV.rep]at h;rw[AV.ren,AV.rep,hz i (by simp[AV.ids])];exact h
 |.pe i sz k q,hz,u,h=>by rw[AV.rep]at h;rw[AV.ren,AV.rep,hz i (by simp[AV.ids])];exact h
 |.ol i n,hz,u,h=>by rw[AV.rep]at h;rw[AV.ren,AV.rep,hz i (by simp[AV.ids])];exact h
 |.sv i n,hz,u,h=>by rw[AV.rep]at h;rw[AV.ren,AV.rep,hz i (by simp[AV.ids])];exact h
 |.so i o n c,hz,u,h=>by rw[AV.rep]at h;rw[AV.ren,AV.rep,hz i (by simp[AV.ids])];exact h
 |.fr _ _ _,_,u,h=>by rw[AV.rep]at h;exact h.elim
 |.na,_,u,h=>by rw[AV.ren,AV.rep];trivial
 |.ag cs,hz,u,h=>by
  rw[AV.rep]at h;rw[AV.ren,AV.rep]
  obtain⟨us,e,h⟩:=h
  exact⟨us,e,AV.reps_ren hB cs (by simpa[AV.ids]using hz) _ h⟩
 |.cl g cs,hz,u,h=>by
  rw[AV.rep]at h;rw[AV.ren,AV.rep]
  obtain⟨us,e,h⟩:=h
  exact⟨us,e,AV.reps_ren hB cs (by simpa[AV.ids]using hz) _ h⟩
 |.tu cs,hz,u,h=>by
  rw[AV.rep]at h;rw[AV.ren,AV.rep]
  obtain⟨us,e,h⟩:=h
  exact⟨us,e,AV.reps_ren hB cs (by simpa[AV.ids]using hz) _ h⟩
theorem AV.reps_ren (hB:∀k,k<w.heap.size→B' k→B k):∀(cs:List AV) (_:∀i∈AV.idss cs,Z' (f i)=Z i) (us:List Value),AV.reps Z B w cs us→AV.reps Z' B' w (AV.rens f cs) us
 |[],_,us,h=>by rw[AV.reps]at h;rw[AV.rens,AV.reps];exact h
 |c::cs,hz,us,h=>by
  rw[AV.reps]at h;rw[AV.rens,AV.reps]
  obtain⟨u,us',e,h1,h2⟩:=h
  exact⟨u,us',e,AV.rep_ren hB c (fun i hi=>hz i (by simp[AV.idss,hi])) u h1,AV.reps_ren hB cs (fun i hi=>hz i (by simp[AV.idss,hi])) us' h2⟩
end
end
mutual
theorem AV.ren_ids (f:Nat→Nat):∀(c:AV),(c.ren f).ids=c.ids.map f
 |.r c=>rfl
 |.rp cs=>rfl
 |.ow i=>rfl
 |.pt i o=>rfl
 |.pe i sz k q=>rfl
 |.ol i n=>rfl
 |.sv i n=>rfl
 |.so i o n c=>rfl
 |.fr _ _ _=>rfl
 |.na=>rfl
 |.ag cs=>by rw[AV.ren,AV.ids,AV.ids];exact AV.rens_ids f cs
 |.cl g cs=>by rw[AV.ren,AV.ids,AV.ids];exact AV.rens_ids f cs
 |.tu cs=>by rw[AV.ren,AV.ids,AV.ids];exact AV.rens_ids f cs
theorem AV.rens_ids (f:Nat→Nat):∀(cs:List AV),AV.idss (AV.rens f cs)=(AV.idss cs).map f
 |[]=>rfl
 |c::cs=>by rw[AV.rens,AV.idss,AV.idss,List.map_append,AV.ren_ids f c,AV.rens_ids f cs]
end
def Blk.ren (f:Nat→Nat):Blk→Blk
 |.var T cs=>.var T (AV.rens f cs)
 |.rowo T sz es cs=>.rowo T sz es (AV.rens f cs)
 |b=>b
theorem Blk.ren_ids (f:Nat→Nat) (b:Blk):(b.ren f).ids=b.ids.map f:=by
 cases b with
 |var T cs=>exact AV.rens_ids f cs
 |rowo T sz es cs=>exact AV.rens_ids f cs
 |_=>rfl
/-! ## New slices in what the lent variables hold then -/
def zfB:Blk→Nat→Blk×List Blk
 |.var T cs,k=>(.var T (AV.unfrs cs k).1,(AV.unfrs cs k).2)
 |.rowo T sz es cs,k=>(.rowo T sz es (AV.unfrs cs k).1,(AV.unfrs cs k).2)
 |.row T sz es,_=>(.row T sz es,[])
 |.full T sz es,_=>(.full T sz es,[])
 |.rowk T sz es n c,_=>(.rowk T sz es n c,[])
 |.mp l,_=>(.mp l,[])
 |.obj o,_=>(.obj o,[])
 |.gl g o,_=>(.gl g o,[])
def zfC:List (Option Blk)→Nat→List (Option Blk)×List Blk
 |[],_=>([],[])
 |none::l,k=>(none::(zfC l k).1,(zfC l k).2)
 |some b::l,k=>(some (zfB b k).1::(zfC l (k+(zfB b k).2.length)).1,(zfB b k).2++(zfC l (k+(zfB b k).2.length)).2)
/-! ## The contract from the walk -/
inductive RtB (H:Nat→Option Blk) (L:Nat) (G:List Nat):Blk→Blk→List Nat→Prop
 |row (T sz es):RtB H L G (.row T sz es) (.row T sz es) []
 |full (T sz es):RtB H L G (.full T sz es) (.full T sz es) []
 |rowk (T sz es n c):RtB H L G (.rowk T sz es n c) (.rowk T sz es n c) []
 |mp (l):RtB H L G (.mp l) (.mp l) []
 |obj (o):RtB H L G (.obj o) (.obj o) []
 |gl (g o):RtB H L G (.gl g o) (.gl g o) []
 |var (T cs ds F):RtL H L G cs ds F→RtB H L G (.var T cs) (.var T ds) F
 |rowo (T sz es cs ds F):RtL H L G cs ds F→RtB H L G (.rowo T sz es cs) (.rowo T sz es ds) F
inductive RtP (H:Nat→Option Blk) (L:Nat) (G:List Nat):Nat→List (Option Blk)→List Nat→Prop
 |nil (i):RtP H L G i [] []
 |no (i l F):RtP H L G (i+1) l F→RtP H L G i (none::l) F
 |so (i l b' b F F'):H i=some b'→RtB H L G b' b F→RtP H L G (i+1) l F'→RtP H L G i (some b::l) (F++F')
section
variable {H:Nat→Option Blk} {L:Nat} {G:List Nat} {Z Z':Nat→Value} {B B':Nat→Prop} {w:World}
theorem RtB.nums {b' b:Blk} {F:List Nat} (h:RtB H L G b' b F) (k:Nat):(zfB b k).2.length=F.length∧∀(j:Nat) (c:Blk),(zfB b k).2[j]? =some c→∃i T sz es,F[j]? =some i∧H i=some c∧c= .row T sz es:=by
 cases h with
 |var T cs ds F h=>exact h.nums k
 |rowo T sz es cs ds F h=>exact h.nums k
 |_=>simp[zfB]
theorem RtP.nums:∀{i:Nat} {l:List (Option Blk)} {F:List Nat} (_:RtP H L G i l F) (k:Nat),(zfC l k).2.length=F.length∧∀(j:Nat) (c:Blk),(zfC l k).2[j]? =some c→∃i T sz es,F[j]? =some i∧H i=some c∧c= .row T sz es
 |_,_,_,.nil i,k=>by simp[zfC]
 |_,_,_,.no i l F h,k=>RtP.nums h k
 |_,_,_,.so i l b' b F F' h0 h1 h2,k=>by
  rw[zfC]
  obtain⟨e1,g1⟩:=h1.nums k
  obtain⟨e2,g2⟩:=RtP.nums h2 (k+(zfB b k).2.length)
  refine⟨by rw[List.length_append,List.length_append,e2,e1],fun j c hc=>?_⟩
  rcases Nat.lt_or_ge j (zfB b k).2.length with hj|hj
  ·rw[List.getElem?_append_left hj]at hc
   obtain⟨q,T,sz,es,h3,h4⟩:=g1 j c hc
   exact⟨q,T,sz,es,by rw[List.getElem?_append_left (by omega)];exact h3,h4⟩
  ·rw[List.getElem?_append_right hj]at hc
   obtain⟨q,T,sz,es,h3,h4⟩:=g2 _ c hc
   exact⟨q,T,sz,es,by rw[List.getElem?_append_right (by omega),←e1];exact h3,h4⟩
theorem RtL.len:∀{as ds:List AV} {F:List Nat},RtL H L G as ds F→as.length=ds.length
 |_,_,_,.nil=>rfl
 |_,_,_,.cons _ _ _ _ _ _ _ h=>by rw[List.length_cons,List.length_cons,h.len]
theorem zhq:∀(ds:List AV) (k:Nat),(AV.unfrs ds k).1.length=ds.length
 |[],k=>rfl
 |d::ds,k=>by rw[AV.unfrs,List.length_cons,List.length_cons,zhq ds _]
theorem RtB.held {i i':Nat} {b' b:Blk} {F:List Nat} (h:RtB H L G b' b F) (hh:held Z B w i b') (hz:Z' i'=Z i) (hB:∀k,k<w.heap.size→B' k→B k) (hG:∀j b,j∈G→H j=some b→Go.Ab.held Z B w j b∧∀x,blk (Z j)=some x→¬B' x) (hL:∀i,i<L→Z' i=Z i)
  (k:Nat) (hk:∀(j q:Nat),F[j]? =some q→Z' (k+j)=Z q):Go.Ab.held Z' B' w i' (zfB b k).1:=by
 cases h with
 |row T sz es=>exact zax hh hz rfl hB
 |full T sz es=>exact zax hh hz rfl hB
 |rowk T sz es n c=>exact zax hh hz rfl hB
 |mp l=>exact zax hh hz rfl hB
 |obj o=>exact zax hh hz rfl hB
 |gl g o=>exact zax hh hz rfl hB
 |var T cs ds F h=>
  obtain⟨q,us,h1,h2,h3,h4⟩:=hh
  exact⟨q,us,hz.trans h1,h2,h.reps hB hG hL k hk _ h3,h4⟩
 |rowo T sz es cs ds F h=>
  obtain⟨us,vs,h1,h2,h3,h4,h5,h6⟩:=hh
  exact⟨us,vs,by rw[hz];exact h1,h2.mono (Upto.refl _) hB,h.reps hB hG hL k hk _ h3,h4,by rw[zhq,←h.len];exact h5,h6⟩
theorem RtP.get:∀{i:Nat} {l:List (Option Blk)} {F:List Nat} (_:RtP H L G i l F) (k:Nat) {q:Nat} {c:Blk},(q,some c)∈zaM i (zfC l k).1→∃b' b F' k',H q=some b'∧RtB H L G b' b F'∧c=(zfB b (k+k')).1∧∀(j x:Nat),F'[j]? =some x→F[k'+j]? =some x
 |_,_,_,.nil i,k,q,c,h=>by cases h
 |_,_,_,.no i l F h,k,q,c,hq=>by
  rw[zfC,zaM,List.mem_cons]at hq
  rcases hq with e|hq
  ·cases e
  ·exact RtP.get h k hq
 |_,_,_,.so i l b' b F F' h0 h1 h2,k,q,c,hq=>by
  rw[zfC,zaM,List.mem_cons]at hq
  have e1:=(h1.nums k).1
  rcases hq with e|hq
  ·injection e with e2 e3
   injection e3 with e3
   subst e2 e3
   refine⟨b',b,F,0,h0,h1,rfl,fun j x hj=>?_⟩
   rw[Nat.zero_add,List.getElem?_append_left (za4 hj)]
   exact hj
  ·obtain⟨c',d,F2,k',g1,g2,g3,g4⟩:=RtP.get h2 _ hq
   refine⟨c',d,F2,F.length+k',g1,g2,by rw[g3,e1,Nat.add_assoc],fun j x hj=>?_⟩
   have :=g4 j x hj
   rw[List.getElem?_append_right (by omega),show F.length+k'+j-F.length=k'+j by omega]
   exact this
end
def zma (L:Ln) (F G:List Nat):Bool:=(F.all fun i=>Nat.ble L.n i || Nat.blt i L.m) && (G.all fun i=>Nat.beq L.m 0 && Nat.ble L.n i && F.all fun j=> !Nat.beq i j) && decide F.Nodup
structure zo5 (P:Program) (L:Ln) (fn:Func) (S:St) (r:AV) (post:List (Option Blk)):Prop where
 ex:∃x F F' G,ResA P S fn x∧Rt S.HF L.n G x r F∧RtP S.HF L.n G 0 post F'∧zma L (F++F') G=true
/-! ## A call by such a contract -/
inductive CfBs (H:Nat→Option Blk) (ρ:Nat→Nat):List Blk→List Blk→Prop
 |nil:CfBs H ρ [] []
 |cons (a d as ds):CfB H ρ [] a d→CfBs H ρ as ds→CfBs H ρ (a::as) (d::ds)
theorem CfBs.get {H:Nat→Option Blk} {ρ:Nat→Nat}:∀{as ds:List Blk},CfBs H ρ as ds→∀{q:Nat} {b:Blk},ds[q]? =some b→∃b',as[q]? =some b'∧CfB H ρ [] b' b
 |_,_,.nil,q,b,h=>by simp at h
 |_,_,.cons a d as ds h1 h2,0,b,h=>by simp at h;subst h;exact⟨a,rfl,h1⟩
 |_,_,.cons a d as ds h1 h2,q+1,b,h=>by simpa using h2.get (by simpa using h)
theorem CfBs.len {H:Nat→Option Blk} {ρ:Nat→Nat}:∀{as ds:List Blk},CfBs H ρ as ds→as.length=ds.length
 |_,_,.nil=>rfl
 |_,_,.cons _ _ _ _ _ h=>by rw[List.length_cons,List.length_cons,h.len]
theorem CfB.heldG {H:Nat→Option Blk} {ρ:Nat→Nat} {G:List Nat} {Z Z':Nat→Value} {B B':Nat→Prop} {w:World} {i i':Nat} {b' b:Blk} (h2:CfB H ρ G b' b) (h3:held Z B w i b') (hz:Z' i'=Z i) (hid:∀j∈b.ids,Z' j=Z (ρ j)) (hB:∀q,q<w.heap.size→B' q→B q) (hG:∀j b,j∈G→H j=some b→Go.Ab.held Z B w j b∧∀x,blk (Z j)=some x→¬B' x):Go.Ab.held Z' B' w i' b:=by
 cases h2 with
 |row T sz es=>exact zax h3 hz rfl hB
 |full T sz es=>exact zax h3 hz rfl hB
 |rowk T sz es n c=>exact zax h3 hz rfl hB
 |mp l=>exact zax h3 hz rfl hB
 |obj o=>exact zax h3 hz rfl hB
 |gl g o=>exact zax h3 hz rfl hB
 |var T cs ds hc=>
  obtain⟨q,us,g1,g2,g3,g4⟩:=h3
  exact⟨q,us,hz.trans g1,g2,CfL.reps hB hG hc hid _ g3,g4⟩
 |rowo T sz es cs ds hc=>
  obtain⟨us,vs,g1,g2,g3,g4,g5,g6⟩:=h3
  exact⟨us,vs,by rw[hz];exact g1,g2.mono (Upto.refl _) hB,CfL.reps hB hG hc hid _ g3,g4,by rw[←hc.len];exact g5,g6⟩
 |rowc T sz es cs e hc=>
  obtain⟨us,vs,g1,g2,g3,g4,g5,g6⟩:=h3
  have g7:=CfL.reps (Z':=Z') hB hG hc (fun i hi=>by
   rw[zb8]at hi
   obtain⟨c,hc,hci⟩:=hi
   obtain⟨c',_,rfl⟩:=List.mem_map.1 hc
   simp[AV.ids]at hci) _ g3
  have g8:=hc.len
  rw[List.length_map]at g8
  refine⟨us++vs,by rw[List.length_append,hz];exact g1,?_,fun x hx=>?_⟩
  ·rw[List.flatten_append]
   refine(g2.mono (Upto.refl _) hB).append ?_
   rw[show[e].flatten=e by simp]
   exact zcU e g7 g6
  ·rcases List.mem_append.1 hx with hx|hx
   ·exact g4 x hx
   ·rw[List.mem_singleton]at hx;subst hx;omega
theorem CfB.held {H:Nat→Option Blk} {ρ:Nat→Nat} {Z Z':Nat→Value} {B B':Nat→Prop} {w:World} {i i':Nat} {b' b:Blk} (h2:CfB H ρ [] b' b) (h3:held Z B w i b') (hz:Z' i'=Z i) (hid:∀j∈b.ids,Z' j=Z (ρ j)) (hB:∀q,q<w.heap.size→B' q→B q):Go.Ab.held Z' B' w i' b:=h2.heldG h3 hz hid hB fun j b h=>by cases h
section
variable {P:Program} {L:Ln} {N:Nat} {ops:Array Oper} {chk:List (Nat×Sp)→Bool} {Q:St→Prop} {l:List Oper} {E:List (Nat×AV)} {H:List (Nat×Option Blk)} {n:Nat} {tr:List (Nat×Sp)}
variable {d:Nat} {ty:TypeId} {pos:String} {af:Array Edge} {g:Option (Nat×Bool)}
end
abbrev Fam:=List (Value×Blk)
def famH (K:Nat) (H:Nat→Option Blk) (F:Fam) (i:Nat):Option Blk:=if i<K then H i else(F[i-K]?).map (·.2)
structure SimK (C:Cx) (S:St) (F:Fam) (a:Act) (w:World) (Z:Nat→Value) (K:Nat):Prop where
 le:S.nx≤K
 top:∀i,S.nx≤i→S.HF i=none
 eid:∀t,∀i∈(S.envF t).ids,i<S.nx
 bid:∀i b,S.HF i=some b→∀j∈b.ids,j<S.nx
 fam:∀j p,F[j]? =some p→Z (K+j)=p.1∧p.2.ids=[]
 sim:SimF C (fun i=>i<S.nx∨(K≤i∧i<K+F.length)) S.envF (famH K S.HF F) Z a w
def SimX (C:Cx) (S:St) (F:Fam) (a:Act) (w:World):Prop:=∃Z K,SimK C S F a w Z K
theorem zcM {K:Nat} {H:Nat→Option Blk} {F:Fam} {i:Nat} (h:i<K):famH K H F i=H i:=if_pos h
theorem zge {K:Nat} {H:Nat→Option Blk} {F:Fam} {j:Nat}:famH K H F (K+j)=(F[j]?).map (·.2):=by
 unfold famH;rw[if_neg (by omega),Nat.add_sub_cancel_left]
theorem zaG {K:Nat} {H:Nat→Option Blk} {F:Fam} {i:Nat} {b:Blk} (h:famH K H F i=some b):(i<K∧H i=some b)∨∃j p,i=K+j∧F[j]? =some p∧p.2=b:=by
 unfold famH at h
 split at h
 ·rename_i hi;exact .inl ⟨hi,h⟩
 ·rename_i hi
  rw[Option.map_eq_some_iff]at h
  obtain⟨p,h1,h2⟩:=h
  exact .inr ⟨i-K,p,by omega,h1,h2⟩
section
variable {C:Cx} {S:St} {F:Fam} {a:Act} {w:World} {Z:Nat→Value} {K:Nat}
theorem SimK.hf (h:SimK C S F a w Z K) {i:Nat} {b:Blk} (hi:S.HF i=some b):i<S.nx∧famH K S.HF F i=some b:=by
 have h1:i<S.nx:=by
  rcases Nat.lt_or_ge i S.nx with h'|h'
  ·exact h'
  ·rw[h.top i h']at hi;cases hi
 exact⟨h1,by rw[zcM (Nat.lt_of_lt_of_le h1 h.le)];exact hi⟩
theorem SimK.fm (h:SimK C S F a w Z K) {j:Nat} {p:Value×Blk} (hj:F[j]? =some p):famH K S.HF F (K+j)=some p.2:=by rw[zge,hj];rfl
theorem SimK.of_sim (h:Sim C S a w):SimX C S [] a w:=by
 obtain⟨Z,h⟩:=h
 have top:∀i,S.nx≤i→S.HF i=none:=fun i hi=>by
  cases hb:S.HF i with
  |none=>rfl
  |some b=>have :=(h.holds i b hb).2.1;omega
 have e:famH S.nx S.HF []=S.HF:=by
  funext i
  unfold famH
  split
  ·rfl
  ·rename_i hi;rw[top i (by omega)];rfl
 refine⟨Z,S.nx,Nat.le_refl _,top,h.ids,fun i b hb=>(h.holds i b hb).2.2,fun j p hj=>by simp at hj,?_⟩
 rw[e]
 exact h.monoD fun i hi=>.inl hi
theorem SimX.sim (h:SimX C S [] a w):Sim C S a w:=by
 obtain⟨Z,K,h⟩:=h
 have e:famH K S.HF []=S.HF:=by
  funext i
  unfold famH
  split
  ·rfl
  ·rename_i hi;rw[h.top i (by have :=h.le;omega)];rfl
 have hs:=h.sim
 rw[e]at hs
 exact⟨Z,hs.monoD fun i hi=>by rcases hi with hi|hi
                               · exact hi
                               · simp at hi;omega⟩
/-! ## What a piece of code does not see, it leaves -/
theorem SimK.frame (hl:C.ln=⟨0,0⟩) (hfull:∀i,i<S.nx→∃b,S.HF i=some b) (h:SimK C S F a w Z K):
  ∃C1:Cx,C1.P=C.P∧C1.N=C.N∧C1.ln=⟨S.nx,S.nx⟩∧Sim C1 S a w∧∀S' a' w',Sim C1 S' a' w'→∃Z' K',SimK C S' F a' w' Z' K'∧S.nx≤S'.nx∧(∀i,i<S.nx→Z' i=Z i)∧
   Upto (Own C (famH K S.HF F) Z) w w'∧∀k,k<w.heap.size→Own C (famH K' S'.HF F) Z' k→Own C (famH K S.HF F) Z k:=by
 have hs:=h.sim
 have hnl:C.nl=0:=by unfold Cx.nl;rw[hl]
 have hm0:C.ln.m=0:=by rw[hl]
 refine⟨⟨C.P,w,Own C (famH K S.HF F) Z,Z,⟨S.nx,S.nx⟩,C.N,C.df⟩,rfl,rfl,rfl,⟨Z,hs.size,hs.defers,Upto.refl _,hs.m_lt,fun t=>?_,h.eid,fun i b hb=>?_,fun i j b c hi hj hij=>hs.dist i j b c (h.hf hi).2 (h.hf hj).2 hij,fun i b x hi hx=>.inl (h.hf hi).1,Nat.le_refl _,fun i hi=>⟨rfl,hi⟩⟩,?_⟩
 ·refine AV.rep_mono (Upto.refl _) (fun k _ hk=>?_) _ (fun _ _=>rfl) _ (hs.slots t)
  rcases hk with hk|⟨i,b,hi,hx⟩
  ·exact hk
  ·exact .inr ⟨i,b,(h.hf hi).2,hx⟩
 ·refine⟨((hs.holds i b (h.hf hb).2).1).anti fun k _ hk=>?_,(h.hf hb).1,fun j hj=>h.bid i b hb j hj⟩
  rcases hk with hk|⟨i,b,hi,hx⟩
  ·exact hk
  ·exact .inr ⟨i,b,(h.hf hi).2,hx⟩
 ·rintro S' a' w' ⟨Z',h'⟩
  have nlx:∀i,i<S.nx→∃b,famH K S.HF F i=some b:=fun i hi=>by
   obtain⟨b,hb⟩:=hfull i hi
   exact⟨b,(h.hf hb).2⟩
  -- what S' owns of what was there,S owned
  have old:∀i b x,S'.HF i=some b→blk (Z' i)=some x→(∃q c,q<S.nx∧famH K S.HF F q=some c∧blk (Z q)=some x)∨w.heap.size≤x:=by
   intro i b x hi hx
   rcases h'.fresh i b x hi hx with h1|h1|⟨j,h1,h2⟩
   ·have h1:i<S.nx:=h1
    obtain⟨c,hc⟩:=nlx i h1
    have e:Z' i=Z i:=(h'.zl i h1).1
    exact .inl ⟨i,c,h1,hc,by rw[←e];exact hx⟩
   ·exact .inr h1
   ·have h1:j<S.nx:=h1
    obtain⟨c,hc⟩:=nlx j h1
    exact .inl ⟨j,c,h1,hc,h2⟩
  have top:∀i,S'.nx≤i→S'.HF i=none:=fun i hi=>by
   cases hb:S'.HF i with
   |none=>rfl
   |some b=>have :=(h'.holds i b hb).2.1;omega
  have lo:∀i b,S'.HF i=some b→i<S'.nx:=fun i b hi=>(h'.holds i b hi).2.1
  generalize hZ:(fun i=>if i<S'.nx then Z' i else Z (K+(i-S'.nx)))=Z2
  have z1:∀i,i<S'.nx→Z2 i=Z' i:=fun i hi=>by rw[←hZ];exact if_pos hi
  have z2:∀j,Z2 (S'.nx+j)=Z (K+j):=fun j=>by rw[←hZ];simp only;rw[if_neg (by omega),Nat.add_sub_cancel_left]
  have flt:∀j p x,F[j]? =some p→blk (Z (K+j))=some x→x<w.heap.size:=fun j p x hj hx=>(hs.holds _ _ (h.fm hj)).1.lt hx
  have hB2:∀k,Own C (famH S'.nx S'.HF F) Z2 k→Own ⟨C.P,w,Own C (famH K S.HF F) Z,Z,⟨S.nx,S.nx⟩,C.N,C.df⟩ S'.HF Z' k:=by
   rintro k (hk|⟨i,b,hi,hx⟩)
   ·exact .inl (.inl hk)
   ·rcases zaG hi with⟨h1,h2⟩|⟨j,p,rfl,h2,h3⟩
    ·rw[z1 i h1]at hx
     exact .inr ⟨i,b,h2,hx⟩
    ·rw[z2]at hx
     exact .inl (.inr ⟨K+j,_,h.fm h2,hx⟩)
  have hB1:∀k,k<w.heap.size→Own C (famH S'.nx S'.HF F) Z2 k→Own C (famH K S.HF F) Z k:=by
   rintro k hkl (hk|⟨i,b,hi,hx⟩)
   ·exact .inl hk
   ·rcases zaG hi with⟨h1,h2⟩|⟨j,p,rfl,h2,h3⟩
    ·rw[z1 i h1]at hx
     rcases old i b k h2 hx with⟨q,c,_,h3,h4⟩|h3
     ·exact .inr ⟨q,c,h3,h4⟩
     ·omega
    ·rw[z2]at hx
     exact .inr ⟨K+j,_,h.fm h2,hx⟩
  have hU:Upto (Own C (famH K S.HF F) Z) w w':=h'.frame.mono fun x _ ⟨i,hi,hx⟩=>by
   obtain⟨b,hb⟩:=nlx i hi
   exact .inr ⟨i,b,hb,hx⟩
  have hnx:S.nx≤S'.nx:=by
   rcases Nat.lt_or_ge S'.nx S.nx with h9|h9
   ·exact absurd (h'.zl S'.nx h9).2 (Nat.lt_irrefl _)
   ·exact h9
  refine⟨Z2,S'.nx,?_,hnx,fun i hi=>(z1 i (Nat.lt_of_lt_of_le hi hnx)).trans (h'.zl i hi).1,hU,hB1⟩
  refine⟨Nat.le_refl _,top,h'.ids,fun i b hb=>(h'.holds i b hb).2.2,fun j p hj=>⟨by rw[z2];exact(h.fam j p hj).1,(h.fam j p hj).2⟩,h'.size,h'.defers,?_,hs.m0,fun t=>?_,fun t i hi=>.inl (h'.ids t i hi),fun i b hi=>?_,fun i j b c hi hj hij x hx hx2=>?_,fun i b x hi hx=>?_,hs.lm,fun i hi=>by omega⟩
  ·refine⟨h'.frame.os.trans hs.frame.os,h'.frame.tape.trans hs.frame.tape,h'.frame.output.trans hs.frame.output,Nat.le_trans hs.frame.size h'.frame.size,fun x hx hxl=>?_⟩
   refine(h'.frame.block x (Nat.lt_of_lt_of_le hx hs.frame.size) ?_).trans (hs.frame.block x hx hxl)
   rintro⟨i,hi,hix⟩
   obtain⟨b,hb⟩:=nlx i hi
   rcases hs.fresh i b x hb hix with h1|h1|⟨j,h1,_⟩
   ·omega
   ·omega
   ·omega
  ·exact AV.rep_mono (Upto.refl _) (fun k _ hk=>hB2 k hk) _ (fun i hi=>z1 i (h'.ids t i hi)) _ (h'.slots t)
  ·rcases zaG hi with⟨h1,h2⟩|⟨j,p,rfl,h2,rfl⟩
   ·exact⟨(h'.holds i b h2).1.keep (Upto.refl _) (fun k _ hk=>hB2 k hk) (z1 i h1) (fun q hq=>z1 q ((h'.holds i b h2).2.2 q hq)) (fun _ _=>rfl),.inl h1,fun q hq=>.inl ((h'.holds i b h2).2.2 q hq)⟩
   ·obtain⟨f1,f2⟩:=h.fam j p h2
    have g1:=(hs.holds _ _ (h.fm h2)).1
    have g2:held Z (Own C (famH S'.nx S'.HF F) Z2) w' (K+j) p.2:=g1.keep hU hB1 rfl (fun _ _=>rfl) (fun x hx=>by
     refine h'.frame.block x (flt j p x h2 hx) ?_
     rintro⟨i,hi,hix⟩
     have hi:i<S.nx:=hi
     obtain⟨b,hb⟩:=nlx i hi
     exact hs.dist i (K+j) b p.2 hb (h.fm h2) (by have :=h.le;omega) x hix hx)
    exact⟨zax g2 (z2 j) f2 (fun _ _ hq=>hq),.inr ⟨by omega,by have :=za4 h2;omega⟩,fun q hq=>by rw[f2]at hq;cases hq⟩
  ·rcases zaG hi with⟨h1,h2⟩|⟨p,u,rfl,h2,rfl⟩<;>rcases zaG hj with⟨h3,h4⟩|⟨q,v,rfl,h4,rfl⟩
   ·rw[z1 i h1]at hx;rw[z1 j h3]at hx2
    exact h'.dist i j b c h2 h4 hij x hx hx2
   ·rw[z1 i h1]at hx;rw[z2]at hx2
    rcases old i b x h2 hx with⟨q',c',g0,g1,g2⟩|g1
    ·exact hs.dist q' (K+q) c' v.2 g1 (h.fm h4) (by have :=h.le;omega) x g2 hx2
    ·have :=flt q v x h4 hx2;omega
   ·rw[z2]at hx;rw[z1 j h3]at hx2
    rcases old j c x h4 hx2 with⟨q',c',g0,g1,g2⟩|g1
    ·exact hs.dist q' (K+p) c' u.2 g1 (h.fm h2) (by have :=h.le;omega) x g2 hx
    ·have :=flt p u x h2 hx;omega
   ·rw[z2]at hx hx2
    exact hs.dist (K+p) (K+q) u.2 v.2 (h.fm h2) (h.fm h4) (by omega) x hx hx2
  ·rcases zaG hi with⟨h1,h2⟩|⟨j,p,rfl,h2,rfl⟩
   ·rw[z1 i h1]at hx
    rcases old i b x h2 hx with⟨q,c,_,g1,g2⟩|g1
    ·rcases hs.fresh q c x g1 g2 with g3|g3|⟨j,g3,_⟩
     ·omega
     ·exact .inr (.inl g3)
     ·omega
    ·exact .inr (.inl (Nat.le_trans hs.frame.size g1))
   ·rw[z2]at hx
    rcases hs.fresh (K+j) p.2 x (h.fm h2) hx with g3|g3|⟨j,g3,_⟩
    ·omega
    ·exact .inr (.inl g3)
    ·omega
theorem SimX.frame (hl:C.ln=⟨0,0⟩) (hfull:∀i,i<S.nx→∃b,S.HF i=some b) (h:SimX C S F a w):
  ∃C1:Cx,C1.P=C.P∧C1.N=C.N∧C1.ln=⟨S.nx,S.nx⟩∧Sim C1 S a w∧∀S' a' w',Sim C1 S' a' w'→SimX C S' F a' w':=by
 obtain⟨Z,K,h⟩:=h
 obtain⟨C1,e1,e2,e3,g1,g2⟩:=h.frame hl hfull
 refine⟨C1,e1,e2,e3,g1,fun S' a' w' hs=>?_⟩
 obtain⟨Z',K',h',_⟩:=g2 S' a' w' hs
 exact⟨Z',K',h'⟩
/-! ## Knowing less -/
theorem SimK.weaken (h:SimK C S F a w Z K) (hl:C.ln=⟨0,0⟩) (T:St) (l:List (Nat×Nat)) (G:List Nat) (hn:zfm C.ln T (rho l) G=true) (he:eLe S (rho l) G T.env) (hh:hLe S (rho l) G T.H):
  ∃Z',SimK C T F a w Z' T.nx∧(∀i,i<T.nx→Z' i=Z (rho l i))∧∀k,k<w.heap.size→Own C (famH T.nx T.HF F) Z' k→Own C (famH K S.HF F) Z k:=by
 have hs:=h.sim
 have hnl:C.nl=0:=by unfold Cx.nl;rw[hl]
 have hm0:C.ln.m=0:=by rw[hl]
 generalize rho l=ρ at *
 unfold zfm at hn
 simp only[Bool.and_eq_true,List.all_eq_true,za2,zbv]at hn
 obtain⟨⟨⟨⟨⟨⟨n1,n2⟩,n3⟩,n4⟩,n5⟩,n7⟩,n6⟩:=hn
 have hH:∀i b,T.HF i=some b→∃b',S.HF (ρ i)=some b'∧CfB S.HF ρ G b' b:=fun i b hb=>zhJ hh (zba hb)
 have hlo:∀i b,T.HF i=some b→i<T.nx:=fun i b hb=>(n2 _ (zba hb)).1
 have top:∀i,T.nx≤i→T.HF i=none:=fun i hi=>by
  cases hb:T.HF i with
  |none=>rfl
  |some b=>have :=hlo i b hb;omega
 have eid:∀t,∀i∈(T.envF t).ids,i<T.nx:=fun t i hi=>by
  unfold St.envF at hi
  rcases get_mem (l:=T.env) (t:=t)with e|e
  ·rw[e]at hi;simp[AV.ids]at hi
  ·exact n1 _ e i hi
 have bid:∀i b,T.HF i=some b→∀j∈b.ids,j<T.nx:=fun i b hb j hj=>by
  have :=(n2 _ (zba hb)).2
  simp only[List.all_eq_true,za2]at this
  exact this j hj
 generalize hZ:(fun i=>if i<T.nx then Z (ρ i)else Z (K+(i-T.nx)))=Z2
 have z1:∀i,i<T.nx→Z2 i=Z (ρ i):=fun i hi=>by rw[←hZ];exact if_pos hi
 have z2:∀j,Z2 (T.nx+j)=Z (K+j):=fun j=>by rw[←hZ];simp only;rw[if_neg (by omega),Nat.add_sub_cancel_left]
 have hB:∀k,k<w.heap.size→Own C (famH T.nx T.HF F) Z2 k→Own C (famH K S.HF F) Z k:=by
  rintro k _ (h0|⟨i,b,hi,hb⟩)
  ·exact .inl h0
  ·rcases zaG hi with⟨h1,h2⟩|⟨j,p,rfl,h2,h3⟩
   ·obtain⟨b',h3,_⟩:=hH i b h2
    rw[z1 i h1]at hb
    exact .inr ⟨ρ i,b',(h.hf h3).2,hb⟩
   ·rw[z2]at hb
    exact .inr ⟨K+j,_,h.fm h2,hb⟩
 have hGG:∀j b,j∈G→S.HF j=some b→held Z (Own C (famH K S.HF F) Z) w j b∧∀x,blk (Z j)=some x→¬Own C (famH T.nx T.HF F) Z2 x:=by
  intro j b hj hb
  refine⟨(hs.holds j b (h.hf hb).2).1,fun x hx=>?_⟩
  obtain⟨⟨g0,g1⟩,g2⟩:=n6 j hj
  rintro(h0|⟨i,c,hi,hc⟩)
  ·have :=hs.m0 x h0
   rcases hs.fresh j b x (h.hf hb).2 hx with h3|h3|⟨q,h3,_⟩
   ·omega
   ·omega
   ·omega
  ·rcases zaG hi with⟨h1,h2⟩|⟨q,p,rfl,h2,h3⟩
   ·obtain⟨c',h3,_⟩:=hH i c h2
    have h4:=g2 _ (zba h2)
    have h5:ρ i≠j:=fun e=>by simp[e]at h4
    rw[z1 i h1]at hc
    exact hs.dist (ρ i) j c' b (h.hf h3).2 (h.hf hb).2 h5 x hc hx
   ·rw[z2]at hc
    exact hs.dist (K+q) j _ b (h.fm h2) (h.hf hb).2 (by have :=h.le;have :=(h.hf hb).1;omega) x hc hx
 refine⟨Z2,⟨Nat.le_refl _,top,eid,bid,fun j p hj=>⟨by rw[z2];exact(h.fam j p hj).1,(h.fam j p hj).2⟩,hs.size,hs.defers,hs.frame,hs.m0,fun t=>?_,fun t i hi=>.inl (eid t i hi),fun i b hb=>?_,fun i j b c hi hj hij x hx hx2=>?_,fun i b x hi hx=>?_,hs.lm,fun i hi=>by omega⟩,z1,hB⟩
 ·unfold St.envF
  rcases get_mem (l:=T.env) (t:=t)with e|e
  ·rw[e,AV.rep];trivial
  ·exact Cf.rep hB hGG (zhD he e) (fun i hi=>z1 i (eid t i hi)) _ (hs.slots t)
 ·rcases zaG hb with⟨h1,h2⟩|⟨j,p,rfl,h2,rfl⟩
  ·obtain⟨b',h3,h4⟩:=hH i b h2
   exact⟨h4.heldG (hs.holds _ b' (h.hf h3).2).1 (z1 i h1) (fun q hq=>z1 q (bid i b h2 q hq)) hB hGG,.inl h1,fun q hq=>.inl (bid i b h2 q hq)⟩
  ·obtain⟨f1,f2⟩:=h.fam j p h2
   exact⟨zax (hs.holds _ _ (h.fm h2)).1 (z2 j) f2 hB,.inr ⟨by omega,by have :=za4 h2;omega⟩,fun q hq=>by rw[f2]at hq;cases hq⟩
 ·rcases zaG hi with⟨h1,h2⟩|⟨p,u,rfl,h2,rfl⟩<;>rcases zaG hj with⟨h3,h4⟩|⟨q,v,rfl,h4,rfl⟩
  ·rw[z1 i h1]at hx;rw[z1 j h3]at hx2
   obtain⟨b',g1,_⟩:=hH i b h2
   obtain⟨c',g2,_⟩:=hH j c h4
   have :=n5 _ (zba h2) _ (zba h4)
   rw[Bool.or_eq_true]at this
   rcases this with h3|h3
   ·exact hij (Nat.eq_of_beq_eq_true h3)
   ·exact hs.dist (ρ i) (ρ j) b' c' (h.hf g1).2 (h.hf g2).2 (fun e=>by simp[e]at h3) x hx hx2
  ·rw[z1 i h1]at hx;rw[z2]at hx2
   obtain⟨b',g1,_⟩:=hH i b h2
   exact hs.dist (ρ i) (K+q) b' v.2 (h.hf g1).2 (h.fm h4) (by have :=h.le;have :=(h.hf g1).1;omega) x hx hx2
  ·rw[z2]at hx;rw[z1 j h3]at hx2
   obtain⟨c',g1,_⟩:=hH j c h4
   exact hs.dist (K+p) (ρ j) u.2 c' (h.fm h2) (h.hf g1).2 (by have :=h.le;have :=(h.hf g1).1;omega) x hx hx2
  ·rw[z2]at hx hx2
   exact hs.dist (K+p) (K+q) u.2 v.2 (h.fm h2) (h.fm h4) (by omega) x hx hx2
 ·rcases zaG hi with⟨h1,h2⟩|⟨j,p,rfl,h2,rfl⟩
  ·rw[z1 i h1]at hx
   obtain⟨b',g1,_⟩:=hH i b h2
   rcases hs.fresh (ρ i) b' x (h.hf g1).2 hx with g3|g3|⟨j,g3,_⟩
   ·omega
   ·exact .inr (.inl g3)
   ·omega
  ·rw[z2]at hx
   rcases hs.fresh (K+j) p.2 x (h.fm h2) hx with g3|g3|⟨j,g3,_⟩
   ·omega
   ·exact .inr (.inl g3)
   ·omega
theorem SimX.weaken (h:SimX C S F a w) (hl:C.ln=⟨0,0⟩) (T:St) (l:List (Nat×Nat)) (G:List Nat) (hn:zfm C.ln T (rho l) G=true) (he:eLe S (rho l) G T.env) (hh:hLe S (rho l) G T.H):SimX C T F a w:=by
 obtain⟨Z,K,h⟩:=h
 obtain⟨Z',h',_⟩:=h.weaken hl T l G hn he hh
 exact⟨Z',_,h'⟩
end
end Go.Ab
