/- Texts of the second layer in one: Ab31 Ab32 Ab33 Ab34 Ab38 Rc Ai1 Ai2 Ai3 Ai4. -/
import Derived.Test.YthiioppfnmcclaaGreatG6
import Derived.RangeFuncRecord
import Derived.Test.YthiioppfnmcclaaGreatG4
import Derived.OwnWalkIn
import Derived.TacticsIn
import Derived.RangeFuncIn
import Derived.RangeFuncCalls
import Derived.RangeFuncLeaves
import Derived.RangeFuncFrom
import Derived.RangeFuncNested
import Derived.RangeFuncBound
set_option maxRecDepth 100000
set_option linter.unusedVariables false
set_option linter.unusedSimpArgs false
namespace Go.Ab
open Go.RowKit
/-! ## A slice of the family gets a number, and the other way round -/
mutual
def AV.lit (q:Nat) (v:Value):AV→AV
 |.ow i=>bif Nat.beq i q then .r (.v v)else .ow i
 |.ag cs=>.ag (AV.lits q v cs)
 |.tu cs=>.tu (AV.lits q v cs)
 |.cl f cs=>.cl f (AV.lits q v cs)
 |.r c=>.r c
 |.rp cs=>.rp cs
 |.pt i o=>.pt i o
 |.pe i sz k f=>.pe i sz k f
 |.ol i n=>.ol i n
 |.sv i n=>.sv i n
 |.so i o n c=>.so i o n c
 |.fr T sz es=>.fr T sz es
 |.na=>.na
def AV.lits (q:Nat) (v:Value):List AV→List AV
 |[]=>[]
 |c::cs=>AV.lit q v c::AV.lits q v cs
end
section
variable {Z:Nat→Value} {B:Nat→Prop} {w:World} {q:Nat} {v:Value}
mutual
theorem zhO (hz:Z q=v):∀(c:AV) (u:Value),AV.rep Z B w (c.lit q v) u↔AV.rep Z B w c u
 |.ow i,u=>by
  rw[AV.lit]
  cases h:Nat.beq i q with
  |true=>have :=Nat.eq_of_beq_eq_true h;subst this;rw[cond_true,AV.rep,RV.rep,AV.rep,hz]
  |false=>rw[cond_false]
 |.ag cs,u=>by rw[AV.lit,AV.rep,AV.rep];simp only[zcq hz cs]
 |.tu cs,u=>by rw[AV.lit,AV.rep,AV.rep];simp only[zcq hz cs]
 |.cl f cs,u=>by rw[AV.lit,AV.rep,AV.rep];simp only[zcq hz cs]
 |.r c,u=>Iff.rfl
 |.rp cs,u=>Iff.rfl
 |.pt i o,u=>Iff.rfl
 |.pe i sz k f,u=>Iff.rfl
 |.ol i n,u=>Iff.rfl
 |.sv i n,u=>Iff.rfl
 |.so i o n c,u=>Iff.rfl
 |.fr T sz es,u=>Iff.rfl
 |.na,u=>Iff.rfl
theorem zcq (hz:Z q=v):∀(cs:List AV) (us:List Value),AV.reps Z B w (AV.lits q v cs) us↔AV.reps Z B w cs us
 |[],us=>Iff.rfl
 |c::cs,us=>by rw[AV.lits,AV.reps,AV.reps];simp only[zhO hz c,zcq hz cs]
end
mutual
theorem lit_ids:∀(c:AV) (i:Nat),i∈c.ids→i=q∨i∈(c.lit q v).ids
 |.ow j,i,h=>by
  have hi:i=j:=by simpa[AV.ids]using h
  subst hi
  rw[AV.lit]
  cases h:Nat.beq i q with
  |true=>exact .inl (Nat.eq_of_beq_eq_true h)
  |false=>exact .inr (by simp[AV.ids])
 |.ag cs,i,h=>by rw[AV.lit,AV.ids];exact zdl cs i (by simpa[AV.ids]using h)
 |.tu cs,i,h=>by rw[AV.lit,AV.ids];exact zdl cs i (by simpa[AV.ids]using h)
 |.cl f cs,i,h=>by rw[AV.lit,AV.ids];exact zdl cs i (by simpa[AV.ids]using h)
 |.r c,i,h=>.inr h
 |.rp cs,i,h=>.inr h
 |.pt _ _,i,h=>.inr h
 |.pe _ _ _ _,i,h=>.inr h
 |.ol _ _,i,h=>.inr h
 |.sv _ _,i,h=>.inr h
 |.so _ _ _ _,i,h=>.inr h
 |.fr T sz es,i,h=>.inr h
 |.na,i,h=>.inr h
theorem zdl:∀(cs:List AV) (i:Nat),i∈AV.idss cs→i=q∨i∈AV.idss (AV.lits q v cs)
 |[],i,h=>.inr h
 |c::cs,i,h=>by
  rw[AV.idss,List.mem_append]at h
  rw[AV.lits,AV.idss,List.mem_append]
  rcases h with h|h
  ·exact(lit_ids c i h).imp id .inl
  ·exact(zdl cs i h).imp id .inr
end
mutual
theorem lit_sub:∀(c:AV) (i:Nat),i∈(c.lit q v).ids→i∈c.ids
 |.ow j,i,h=>by
  rw[AV.lit]at h
  cases hb:Nat.beq j q with
  |true=>rw[hb,cond_true]at h;simp[AV.ids]at h
  |false=>rw[hb,cond_false]at h;exact h
 |.ag cs,i,h=>by rw[AV.lit,AV.ids]at h;rw[AV.ids];exact zdm cs i h
 |.tu cs,i,h=>by rw[AV.lit,AV.ids]at h;rw[AV.ids];exact zdm cs i h
 |.cl f cs,i,h=>by rw[AV.lit,AV.ids]at h;rw[AV.ids];exact zdm cs i h
 |.r c,i,h=>h
 |.rp cs,i,h=>h
 |.pt _ _,i,h=>h
 |.pe _ _ _ _,i,h=>h
 |.ol _ _,i,h=>h
 |.sv _ _,i,h=>h
 |.so _ _ _ _,i,h=>h
 |.fr T sz es,i,h=>h
 |.na,i,h=>h
theorem zdm:∀(cs:List AV) (i:Nat),i∈AV.idss (AV.lits q v cs)→i∈AV.idss cs
 |[],i,h=>h
 |c::cs,i,h=>by
  rw[AV.lits,AV.idss,List.mem_append]at h
  rw[AV.idss,List.mem_append]
  exact h.imp (lit_sub c i) (zdm cs i)
end
theorem zir:∀cs:List AV,(AV.lits q v cs).length=cs.length
 |[]=>rfl
 |c::cs=>by rw[AV.lits,List.length_cons,List.length_cons,zir cs]
end
def Blk.lit (q:Nat) (v:Value):Blk→Blk
 |.var T cs=>.var T (AV.lits q v cs)
 |.rowo T sz es cs=>.rowo T sz es (AV.lits q v cs)
 |.row T sz es=>.row T sz es
 |.full T sz es=>.full T sz es
 |.rowk T sz es n c=>.rowk T sz es n c
 |.mp l=>.mp l
 |.obj o=>.obj o
 |.gl g o=>.gl g o
theorem ziq {Z:Nat→Value} {B:Nat→Prop} {w:World} {q:Nat} {v:Value} (hz:Z q=v) (i:Nat) (b:Blk):held Z B w i (b.lit q v)↔held Z B w i b:=by
 cases b with
 |var T cs=>show(∃b us,_∧_∧AV.reps Z B w (AV.lits q v cs) _∧_)↔(∃b us,_∧_∧AV.reps Z B w cs _∧_);simp only[zcq hz cs]
 |rowo T sz es cs=>show(∃us vs,_∧_∧AV.reps Z B w (AV.lits q v cs) _∧_∧(AV.lits q v cs).length=_∧_)↔(∃us vs,_∧_∧AV.reps Z B w cs _∧_∧cs.length=_∧_);simp only[zcq hz cs,zir]
 |_=>exact Iff.rfl
theorem Blk.lit_ids {q:Nat} {v:Value} (b:Blk) (i:Nat) (h:i∈b.ids):i=q∨i∈(b.lit q v).ids:=by
 cases b with
 |var T cs=>exact zdl cs i h
 |rowo T sz es cs=>exact zdl cs i h
 |_=>exact .inr h
theorem Blk.lit_sub {q:Nat} {v:Value} (b:Blk) (i:Nat) (h:i∈(b.lit q v).ids):i∈b.ids:=by
 cases b with
 |var T cs=>exact zdm cs i h
 |rowo T sz es cs=>exact zdm cs i h
 |_=>exact h
def envL (q:Nat) (v:Value) (E:List (Nat×AV)):List (Nat×AV):=E.map fun p=>(p.1,p.2.lit q v)
def blkL (q:Nat) (v:Value) (H:List (Nat×Option Blk)):List (Nat×Option Blk):=H.map fun p=>(p.1,p.2.map (Blk.lit q v))
theorem zc3 (q:Nat) (v:Value):∀(E:List (Nat×AV)) (t:Nat),get (envL q v E) t=(get E t).lit q v
 |[],t=>rfl
 |(k,x)::E,t=>by
  show get ((k,x.lit q v)::envL q v E) t=_
  rw[get,get]
  cases Nat.beq k t with
  |true=>rfl
  |false=>exact zc3 q v E t
theorem zbX (q:Nat) (v:Value):∀(H:List (Nat×Option Blk)) (i:Nat),getH (blkL q v H) i=(getH H i).map (Blk.lit q v)
 |[],i=>rfl
 |(k,x)::H,i=>by
  show getH ((k,x.map (Blk.lit q v))::blkL q v H) i=_
  rw[getH,getH]
  cases Nat.beq k i with
  |true=>rfl
  |false=>exact zbX q v H i
theorem SimF.same {C:Cx} {D D':Nat→Prop} {env env':Nat→AV} {H H':Nat→Option Blk} {Z:Nat→Value} {a:Act} {w:World} (h:SimF C D env H Z a w)
  (he:∀t u B,AV.rep Z B w (env t) u→AV.rep Z B w (env' t) u) (hid:∀t,∀i∈(env' t).ids,D' i) (hh:∀i b',H' i=some b'→∃b,H i=some b∧(∀B,held Z B w i b→held Z B w i b')∧D' i∧∀j∈b'.ids,D' j) (hD:C.nl=0):SimF C D' env' H' Z a w:=by
 have hB:∀k,k<w.heap.size→Own C H' Z k→Own C H Z k:=by
  rintro k _ (h0|⟨i,b',hi,hx⟩)
  ·exact .inl h0
  ·obtain⟨b,h1,_⟩:=hh i b' hi
   exact .inr ⟨i,b,h1,hx⟩
 refine⟨h.size,h.defers,h.frame,h.m0,fun t=>AV.rep_mono (Upto.refl _) hB _ (fun _ _=>rfl) _ (he t _ _ (h.slots t)),hid,fun i b' hi=>?_,fun i j b c hi hj hij=>?_,fun i b x hi hx=>?_,h.lm,fun i hi=>by omega⟩
 ·obtain⟨b,h1,h2,h3,h4⟩:=hh i b' hi
  exact⟨(h2 _ (h.holds i b h1).1).anti hB,h3,h4⟩
 ·obtain⟨b',h1,_⟩:=hh i b hi
  obtain⟨c',h2,_⟩:=hh j c hj
  exact h.dist i j b' c' h1 h2 hij
 ·obtain⟨b',h1,_⟩:=hh i b hi
  exact h.fresh i b' x h1 hx
section
variable {C:Cx} {F F1 F2:Fam} {a:Act} {w:World} {E:List (Nat×AV)} {H:List (Nat×Option Blk)} {n:Nat} {v:Value} {b:Blk}
theorem SimF.ren {D D':Nat→Prop} {env env':Nat→AV} {G G':Nat→Option Blk} {Z Z':Nat→Value} (h:SimF C D env G Z a w) (hnl:C.nl=0) (π:Nat→Nat)
  (hz:∀i b,G' i=some b→Z' i=Z (π i)) (hinj:∀i j b c,G' i=some b→G' j=some c→i≠j→π i≠π j)
  (he:∀t u B B',(∀k,k<w.heap.size→B' k→B k)→AV.rep Z B w (env t) u→AV.rep Z' B' w (env' t) u) (hid:∀t,∀i∈(env' t).ids,D' i)
  (hh:∀i b',G' i=some b'→∃b,G (π i)=some b∧(∀B B',(∀k,k<w.heap.size→B' k→B k)→held Z B w (π i) b→held Z' B' w i b')∧D' i∧∀j∈b'.ids,D' j):SimF C D' env' G' Z' a w:=by
 have hB:∀k,k<w.heap.size→Own C G' Z' k→Own C G Z k:=by
  rintro k _ (h0|⟨i,b',hi,hx⟩)
  ·exact .inl h0
  ·obtain⟨b,h1,_⟩:=hh i b' hi
   exact .inr ⟨π i,b,h1,by rw[←hz i b' hi];exact hx⟩
 refine⟨h.size,h.defers,h.frame,h.m0,fun t=>he t _ _ _ hB (h.slots t),hid,fun i b' hi=>?_,fun i j b c hi hj hij x hx hx2=>?_,fun i b x hi hx=>?_,h.lm,fun i hi=>by omega⟩
 ·obtain⟨b,h1,h2,h3,h4⟩:=hh i b' hi
  exact⟨h2 _ _ hB (h.holds _ b h1).1,h3,h4⟩
 ·obtain⟨b',h1,_⟩:=hh i b hi
  obtain⟨c',h2,_⟩:=hh j c hj
  rw[hz i b hi]at hx
  rw[hz j c hj]at hx2
  exact h.dist (π i) (π j) b' c' h1 h2 (hinj i j b c hi hj hij) x hx hx2
 ·obtain⟨b',h1,_⟩:=hh i b hi
  rw[hz i b hi]at hx
  rcases h.fresh (π i) b' x h1 hx with h2|h2|⟨j,h2,h3⟩
  ·omega
  ·exact .inr (.inl h2)
  ·have :=h.lm;omega
theorem SimX.take (hl:C.ln=⟨0,0⟩) (h:SimX C ⟨envL n v E,blkL n v H,n⟩ (F1++(v,b)::F2) a w):SimX C ⟨E,(n,some b)::H,n+1⟩ (F1++F2) a w:=by
 obtain⟨Z,K,h⟩:=h
 have hs:=h.sim
 have hnl:C.nl=0:=by unfold Cx.nl;rw[hl]
 have hle:n≤K:=h.le
 have hmid:(F1++(v,b)::F2)[F1.length]? =some (v,b):=by rw[List.getElem?_append_right (Nat.le_refl _),Nat.sub_self];rfl
 obtain⟨f1,f2⟩:=h.fam _ _ hmid
 simp only at f1 f2
 -- the numbers behind:n is the slice's,n+1 .. the others'
 let up:Nat→Nat:=fun j=>if j<F1.length then j else j+1
 have hup:∀j,(F1++F2)[j]? =(F1++(v,b)::F2)[up j]? :=by
  intro j
  show _=(F1++(v,b)::F2)[if j<F1.length then j else j+1]?
  split
  ·rename_i hj;rw[List.getElem?_append_left hj,List.getElem?_append_left hj]
  ·rename_i hj
   rw[List.getElem?_append_right (by omega),List.getElem?_append_right (by omega),show j+1-F1.length=(j-F1.length)+1 by omega,List.getElem?_cons_succ]
 have upn:∀j,up j≠F1.length:=fun j=>by show(if j<F1.length then j else j+1)≠_;split <;>omega
 have upi:∀i j,i≠j→up i≠up j:=fun i j hij=>by show(if i<F1.length then i else i+1)≠(if j<F1.length then j else j+1);split <;>split <;>omega
 let π:Nat→Nat:=fun i=>if i<n then i else if i=n then K+F1.length else K+up (i-(n+1))
 let Z':Nat→Value:=fun i=>Z (π i)
 have p1:∀i,i<n→π i=i:=fun i hi=>if_pos hi
 have p2:π n=K+F1.length:=by show(if n<n then n else if n=n then _ else _)=_;rw[if_neg (by omega),if_pos rfl]
 have p3:∀j,π (n+1+j)=K+up j:=fun j=>by show(if n+1+j<n then _ else if n+1+j=n then _ else _)=_;rw[if_neg (by omega),if_neg (by omega),Nat.add_sub_cancel_left]
 have hzn:Z' n=v:=by show Z (π n)=v;rw[p2];exact f1
 have hHn:∀i,n≤i→getH H i=none:=fun i hi=>by
  have :=h.top i hi
  rw[show St.HF ⟨envL n v E,blkL n v H,n⟩ i=getH (blkL n v H) i from rfl,zbX,Option.map_eq_none_iff]at this
  exact this
 have hg:∀i,St.HF ⟨E,(n,some b)::H,n+1⟩ i=if i=n then some b else getH H i:=fun i=>by
  show getH ((n,some b)::H) i=_
  rw[getH]
  by_cases hi:i=n
  ·subst hi;simp
  ·have :Nat.beq n i=false:=by cases hb:Nat.beq n i with
    |false=>rfl
    |true=>exact absurd (Nat.eq_of_beq_eq_true hb).symm hi
   rw[this,if_neg hi];rfl
 have hold:∀i c,getH H i=some c→i<n∧famH K (getH (blkL n v H)) (F1++(v,b)::F2) i=some (c.lit n v):=fun i c hc=>by
  have h1:i<n:=by
   rcases Nat.lt_or_ge i n with h'|h'
   ·exact h'
   ·rw[hHn i h']at hc;cases hc
  exact⟨h1,by rw[zcM (by omega),zbX,hc];rfl⟩
 have eid:∀t,∀i∈(get E t).ids,i<n+1:=fun t i hi=>by
  rcases lit_ids (q:=n) (v:=v) _ i hi with e|e
  ·omega
  ·have :=h.eid t i (by show i∈(get (envL n v E) t).ids;rw[zc3];exact e)
   simp only at this;omega
 have hsplit:∀i c,famH (n+1) (St.HF ⟨E,(n,some b)::H,n+1⟩) (F1++F2) i=some c→(i<n∧getH H i=some c)∨(i=n∧c=b)∨∃j p,i=n+1+j∧(F1++(v,b)::F2)[up j]? =some p∧p.2=c:=by
  intro i c hi
  rcases zaG hi with⟨h1,h2⟩|⟨j,p,rfl,h2,h3⟩
  ·rw[hg]at h2
   split at h2
   ·rename_i e;injection h2 with h2;exact .inr (.inl ⟨e,h2.symm⟩)
   ·exact .inl ⟨(hold i c h2).1,h2⟩
  ·exact .inr (.inr ⟨j,p,rfl,by rw[←hup];exact h2,h3⟩)
 refine⟨Z',n+1,Nat.le_refl _,fun i hi=>?_,eid,fun i c hc j hj=>?_,fun j p hj=>?_,?_⟩
 ·have hi:n+1≤i:=hi
  rw[hg,if_neg (by omega)];exact hHn i (by omega)
 ·rw[hg]at hc
  split at hc
  ·injection hc with hc;subst hc;rw[f2]at hj;cases hj
  ·rcases Blk.lit_ids (q:=n) (v:=v) c j hj with e|e
   ·show j<n+1;omega
   ·have :=h.bid i (c.lit n v) (by show getH (blkL n v H) i=_;rw[zbX,hc];rfl) j e
    simp only at this;show j<n+1;omega
 ·rw[hup]at hj
  obtain⟨g1,g2⟩:=h.fam _ _ hj
  exact⟨by show Z (π (n+1+j))=_;rw[p3];exact g1,g2⟩
 ·refine hs.ren hnl π (fun _ _ _=>rfl) (fun i j c d hi hj hij=>?_) (fun t u B B' hB hr=>?_) (fun t i hi=>.inl (eid t i hi)) (fun i c hi=>?_)
  ·rcases hsplit i c hi with⟨h1,_⟩|⟨h1,_⟩|⟨p,_,h1,_⟩<;>rcases hsplit j d hj with⟨h2,_⟩|⟨h2,_⟩|⟨q,_,h2,_⟩
   ·rw[p1 i h1,p1 j h2];exact hij
   ·subst h2;rw[p1 i h1,p2];omega
   ·subst h2;rw[p1 i h1,p3];omega
   ·subst h1;rw[p1 j h2,p2];omega
   ·omega
   ·subst h1 h2;rw[p2,p3];have :=upn q;omega
   ·subst h1;rw[p1 j h2,p3];omega
   ·subst h1 h2;rw[p2,p3];have :=upn p;omega
   ·subst h1 h2;rw[p3,p3];have :=upi p q (by omega);omega
  ·have hr:AV.rep Z B w (get (envL n v E) t) u:=hr
   rw[zc3]at hr
   have h2:AV.rep Z' B' w ((get E t).lit n v) u:=AV.rep_mono (Upto.refl _) hB _ (fun i hi=>by
    have :=h.eid t i (by show i∈(get (envL n v E) t).ids;rw[zc3];exact hi)
    show Z (π i)=Z i
    rw[p1 i this]) _ hr
   exact(zhO hzn _ u).1 h2
  ·rcases hsplit i c hi with⟨h1,h2⟩|⟨h1,h2⟩|⟨j,p,h1,h2,h3⟩
   ·obtain⟨_,g1⟩:=hold i c h2
    refine⟨c.lit n v,by rw[p1 i h1];exact g1,fun B B' hB hh=>?_,.inl (show i<n+1 by omega),fun j hj=>.inl ?_⟩
    ·rw[p1 i h1]at hh
     refine(ziq hzn i c).1 (hh.keep (Upto.refl _) hB (by show Z (π i)=Z i;rw[p1 i h1]) (fun j hj=>?_) (fun _ _=>rfl))
     have :=h.bid i (c.lit n v) (by show getH (blkL n v H) i=_;rw[zbX,h2];rfl) j hj
     show Z (π j)=Z j
     rw[p1 j this]
    ·rcases Blk.lit_ids (q:=n) (v:=v) c j hj with e|e
     ·show j<n+1;omega
     ·have :=h.bid i (c.lit n v) (by show getH (blkL n v H) i=_;rw[zbX,h2];rfl) j e
      simp only at this;show j<n+1;omega
   ·subst h1 h2
    refine⟨c,by rw[p2];exact h.fm hmid,fun B B' hB hh=>zax hh rfl f2 hB,.inl (show i<i+1 by omega),fun j hj=>by rw[f2]at hj;cases hj⟩
   ·subst h1 h3
    obtain⟨g1,g2⟩:=h.fam _ _ h2
    refine⟨p.2,by rw[p3];exact h.fm h2,fun B B' hB hh=>zax hh rfl g2 hB,.inr ⟨by omega,?_⟩,fun j hj=>by rw[g2]at hj;cases hj⟩
    rw[←hup]at h2
    have :=za4 h2;omega
theorem SimX.put (hl:C.ln=⟨0,0⟩) {q:Nat} (hq:getH H q=some b) (hb:b.ids=[]) (h:SimX C ⟨E,H,n⟩ (F1++F2) a w):∃v,SimX C ⟨envL q v E,(q,none)::blkL q v H,n⟩ (F1++(v,b)::F2) a w:=by
 obtain⟨Z,K,h⟩:=h
 have hs:=h.sim
 have hnl:C.nl=0:=by unfold Cx.nl;rw[hl]
 have hle:n≤K:=h.le
 have hqn:q<n:=(h.hf (i:=q) (b:=b) hq).1
 refine⟨Z q,?_⟩
 generalize hv:Z q=v
 have hmid:(F1++(v,b)::F2)[F1.length]? =some (v,b):=by rw[List.getElem?_append_right (Nat.le_refl _),Nat.sub_self];rfl
 let dn:Nat→Nat:=fun j=>if j<F1.length then j else j-1
 have hdn:∀j,j≠F1.length→(F1++(v,b)::F2)[j]? =(F1++F2)[dn j]? :=by
  intro j hj
  show _=(F1++F2)[if j<F1.length then j else j-1]?
  split
  ·rename_i hj;rw[List.getElem?_append_left hj,List.getElem?_append_left hj]
  ·rename_i hj'
   rw[List.getElem?_append_right (by omega),List.getElem?_append_right (by omega),show j-F1.length=(j-1-F1.length)+1 by omega,List.getElem?_cons_succ]
 have dni:∀i j,i≠j→i≠F1.length→j≠F1.length→dn i≠dn j:=fun i j hij hi hj=>by show(if i<F1.length then i else i-1)≠(if j<F1.length then j else j-1);split <;>split <;>omega
 let π:Nat→Nat:=fun i=>if i<n then i else if i=n+F1.length then q else K+dn (i-n)
 let Z':Nat→Value:=fun i=>Z (π i)
 have p1:∀i,i<n→π i=i:=fun i hi=>if_pos hi
 have p2:π (n+F1.length)=q:=by show(if n+F1.length<n then _ else if n+F1.length=n+F1.length then _ else _)=_;rw[if_neg (by omega),if_pos rfl]
 have p3:∀j,j≠F1.length→π (n+j)=K+dn j:=fun j hj=>by show(if n+j<n then _ else if n+j=n+F1.length then _ else _)=_;rw[if_neg (by omega),if_neg (by omega),Nat.add_sub_cancel_left]
 have hzq:Z' q=v:=by show Z (π q)=v;rw[p1 q hqn];exact hv
 have hg:∀i,St.HF ⟨envL q v E,(q,none)::blkL q v H,n⟩ i=if i=q then none else(getH H i).map (Blk.lit q v):=fun i=>by
  show getH ((q,none)::blkL q v H) i=_
  rw[getH]
  by_cases hi:i=q
  ·subst hi;simp
  ·have :Nat.beq q i=false:=by cases hb:Nat.beq q i with
    |false=>rfl
    |true=>exact absurd (Nat.eq_of_beq_eq_true hb).symm hi
   rw[this,if_neg hi,cond_false,zbX]
 have hlo:∀i c,getH H i=some c→i<n:=fun i c hc=>(h.hf (i:=i) (b:=c) hc).1
 have eid:∀t,∀i∈(get (envL q v E) t).ids,i<n:=fun t i hi=>by
  rw[zc3]at hi
  exact h.eid t i (lit_sub _ i hi)
 have hsplit:∀i c,famH n (St.HF ⟨envL q v E,(q,none)::blkL q v H,n⟩) (F1++(v,b)::F2) i=some c→(i<n∧i≠q∧∃c',getH H i=some c'∧c=c'.lit q v)∨(i=n+F1.length∧c=b)∨∃j p,i=n+j∧j≠F1.length∧(F1++F2)[dn j]? =some p∧p.2=c:=by
  intro i c hi
  rcases zaG hi with⟨h1,h2⟩|⟨j,p,rfl,h2,h3⟩
  ·rw[hg]at h2
   split at h2
   ·cases h2
   ·rename_i e
    rw[Option.map_eq_some_iff]at h2
    obtain⟨c',h2,h3⟩:=h2
    exact .inl ⟨h1,e,c',h2,h3.symm⟩
  ·by_cases hj:j=F1.length
   ·subst hj
    rw[hmid]at h2
    injection h2 with h2
    subst h2
    exact .inr (.inl ⟨rfl,h3.symm⟩)
   ·rw[hdn j hj]at h2
    exact .inr (.inr ⟨j,p,rfl,hj,h2,h3⟩)
 have bid:∀i c,getH H i=some c→∀j∈(c.lit q v).ids,j<n:=fun i c hc j hj=>h.bid i c hc j (Blk.lit_sub c j hj)
 refine⟨Z',n,Nat.le_refl _,fun i hi=>?_,eid,fun i c hc j hj=>?_,fun j p hj=>?_,?_⟩
 ·have hi:n≤i:=hi
  rw[hg]
  split
  ·rfl
  ·rw[show getH H i=none from h.top i hi];rfl
 ·rw[hg]at hc
  split at hc
  ·cases hc
  ·rw[Option.map_eq_some_iff]at hc
   obtain⟨c',h2,rfl⟩:=hc
   exact bid i c' h2 j hj
 ·by_cases hjl:j=F1.length
  ·subst hjl
   rw[hmid]at hj
   injection hj with hj
   subst hj
   exact⟨by show Z (π (n+F1.length))=v;rw[p2];exact hv,hb⟩
  ·rw[hdn j hjl]at hj
   obtain⟨g1,g2⟩:=h.fam _ _ hj
   exact⟨by show Z (π (n+j))=_;rw[p3 j hjl];exact g1,g2⟩
 ·refine hs.ren hnl π (fun _ _ _=>rfl) (fun i j c d hi hj hij=>?_) (fun t u B B' hB hr=>?_) (fun t i hi=>.inl (eid t i hi)) (fun i c hi=>?_)
  ·rcases hsplit i c hi with⟨h1,hiq,_⟩|⟨h1,_⟩|⟨p,_,h1,hp,_⟩<;>rcases hsplit j d hj with⟨h2,hjq,_⟩|⟨h2,_⟩|⟨r,_,h2,hr,_⟩
   ·rw[p1 i h1,p1 j h2];exact hij
   ·subst h2;rw[p1 i h1,p2];exact hiq
   ·subst h2;rw[p1 i h1,p3 r hr];omega
   ·subst h1;rw[p1 j h2,p2];exact fun e=>hjq e.symm
   ·omega
   ·subst h1 h2;rw[p2,p3 r hr];omega
   ·subst h1;rw[p1 j h2,p3 p hp];omega
   ·subst h1 h2;rw[p2,p3 p hp];omega
   ·subst h1 h2;rw[p3 p hp,p3 r hr];have :=dni p r (by omega) hp hr;omega
  ·have hr:AV.rep Z B w (get E t) u:=hr
   show AV.rep Z' B' w (get (envL q v E) t) u
   rw[zc3]
   refine(zhO hzq _ u).2 (AV.rep_mono (Upto.refl _) hB _ (fun i hi=>?_) _ hr)
   show Z (π i)=Z i
   rw[p1 i (h.eid t i hi)]
  ·rcases hsplit i c hi with⟨h1,hiq,c',h2,rfl⟩|⟨h1,h2⟩|⟨j,p,h1,hjl,h2,h3⟩
   ·refine⟨c',by rw[p1 i h1,zcM (by omega)];exact h2,fun B B' hB hh=>?_,.inl h1,fun j hj=>.inl (bid i c' h2 j hj)⟩
    rw[p1 i h1]at hh
    refine(ziq hzq i c').2 (hh.keep (Upto.refl _) hB (by show Z (π i)=Z i;rw[p1 i h1]) (fun j hj=>?_) (fun _ _=>rfl))
    show Z (π j)=Z j
    rw[p1 j (h.bid i c' h2 j hj)]
   ·subst h1 h2
    refine⟨c,by rw[p2];exact(h.hf (i:=q) (b:=c) hq).2,fun B B' hB hh=>zax hh rfl hb hB,.inr ⟨by omega,by simp⟩,fun j hj=>by rw[hb]at hj;cases hj⟩
   ·subst h1 h3
    obtain⟨g1,g2⟩:=h.fam _ _ h2
    refine⟨p.2,by rw[p3 j hjl];exact h.fm h2,fun B B' hB hh=>zax hh rfl g2 hB,.inr ⟨by omega,?_⟩,fun j hj=>by rw[g2]at hj;cases hj⟩
    rw[←hdn j hjl]at h2
    have :=za4 h2;omega
end
/-! ## The last element by itself -/
theorem zg2 {Z:Nat→Value} {B:Nat→Prop} {w:World} {i T sz:Nat} {es:List (List RV)} {e:List RV} (h:held Z B w i (.row T sz (es++[e]))):held Z B w i (.rowo T sz es (e.map AV.r)):=by
 obtain⟨us,h1,h2,h3⟩:=h
 have hes:∀x∈es,x.length=sz:=fun x hx=>h3 x (List.mem_append_left _ hx)
 have he:e.length=sz:=h3 e (by simp)
 rw[List.flatten_append,show[e].flatten=e by simp]at h2
 have g1:=h2.take es.flatten.length
 have g2:=h2.drop es.flatten.length
 rw[List.take_left]at g1
 rw[List.drop_left]at g2
 refine⟨us.take es.flatten.length,us.drop es.flatten.length,by rw[List.take_append_drop];simpa using h1,g1,ziF g2,hes,by rw[List.length_map];exact he,List.all_eq_true.2 fun u hu=>h2.one u (List.mem_of_mem_drop hu)⟩
theorem zi7 (e:List RV):AV.idss (e.map AV.r)=[]:=by
 induction e with
 |nil=>rfl
 |cons c e ih=>rw[List.map_cons,AV.idss,ih];rfl
theorem SimX.rowo {C:Cx} {S:St} {F:Fam} {a:Act} {w:World} (hl:C.ln=⟨0,0⟩) (h:SimX C S F a w) {i T sz:Nat} {es:List (List RV)} {e:List RV} (hi:S.HF i=some (.row T sz (es++[e]))):SimX C ⟨S.env,(i,some (.rowo T sz es (e.map AV.r)))::S.H,S.nx⟩ F a w:=by
 obtain⟨Z,K,h⟩:=h
 have hnl:C.nl=0:=by unfold Cx.nl;rw[hl]
 have hin:=(h.hf hi).1
 have hle:S.nx≤K:=h.le
 have hg:∀j,St.HF ⟨S.env,(i,some (.rowo T sz es (e.map AV.r)))::S.H,S.nx⟩ j=if j=i then some (.rowo T sz es (e.map AV.r))else S.HF j:=fun j=>by
  show getH ((i,some (.rowo T sz es (e.map AV.r)))::S.H) j=_
  rw[getH]
  by_cases hij:j=i
  ·subst hij;simp
  ·have :Nat.beq i j=false:=by cases hb:Nat.beq i j with
    |false=>rfl
    |true=>exact absurd (Nat.eq_of_beq_eq_true hb).symm hij
   rw[this,if_neg hij];rfl
 have bid:∀j b,St.HF ⟨S.env,(i,some (.rowo T sz es (e.map AV.r)))::S.H,S.nx⟩ j=some b→∀q∈b.ids,q<S.nx:=fun j b hb q hq=>by
  rw[hg]at hb
  split at hb
  ·injection hb with hb;subst hb
   rw[Blk.ids,zi7]at hq;cases hq
  ·exact h.bid j b hb q hq
 refine⟨Z,K,h.le,fun j hj=>?_,h.eid,bid,h.fam,h.sim.same (fun t u B hr=>hr) (fun t q hq=>.inl (h.eid t q hq)) (fun j b hb=>?_) hnl⟩
 ·have hj:S.nx≤j:=hj
  rw[hg,if_neg (by omega)];exact h.top j hj
 ·rcases zaG hb with⟨h1,h2⟩|⟨q,p,rfl,h2,rfl⟩
  ·have hb':=bid j b h2
   rw[hg]at h2
   split at h2
   ·rename_i e1
    injection h2 with h2
    subst e1 h2
    exact⟨_,by rw[zcM h1];exact hi,fun B hh=>zg2 hh,.inl hin,fun q hq=>.inl (hb' q hq)⟩
   ·exact⟨b,by rw[zcM h1];exact h2,fun B hh=>hh,.inl (h.hf h2).1,fun q hq=>.inl (hb' q hq)⟩
  ·exact⟨p.2,h.fm h2,fun B hh=>hh,.inr ⟨by omega,by have :=za4 h2;omega⟩,fun x hx=>by rw[(h.fam q p h2).2]at hx;cases hx⟩
/-! ## The family is handed over to what is only read -/
inductive FzL (F:Fam):List RV→List RV→Prop
 |nil:FzL F [] []
 |same (c cs ds):FzL F cs ds→FzL F (c::cs) (c::ds)
 |sl (v T sz es cs ds):(v,Blk.row T sz es)∈F→FzL F cs ds→FzL F (.v v::cs) (.sl sz es::ds)
theorem FzL.refl (F:Fam):∀cs:List RV,FzL F cs cs
 |[]=>.nil
 |c::cs=>.same _ _ _ (FzL.refl F cs)
theorem FzL.append {F:Fam} {as bs cs ds:List RV} (h:FzL F as bs) (k:FzL F cs ds):FzL F (as++cs) (bs++ds):=by
 induction h with
 |nil=>exact k
 |same c _ _ _ ih=>exact .same _ _ _ ih
 |sl v T sz es _ _ hm _ ih=>exact .sl _ _ _ _ _ _ hm ih
theorem FzL.mono {F F':Fam} (hF:∀p∈F,p∈F') {as bs:List RV} (h:FzL F as bs):FzL F' as bs:=by
 induction h with
 |nil=>exact .nil
 |same c _ _ _ ih=>exact .same _ _ _ ih
 |sl v T sz es _ _ hm _ ih=>exact .sl _ _ _ _ _ _ (hF _ hm) ih
/-! ## Walks -/
def zlx (S:St):Bool:=(List.range S.nx).all fun i=>(getH S.H i).isSome
section
variable {P:Program} {N:Nat} {Q:Exit→St→Fam→Prop} {S:St} {F:Fam}
end
section
variable {P:Program} {ty:TypeId} {pos:String} {af:Array Edge} {g:Option (Nat×Bool)} {t:TypeId} {x y:Operand}
end
section
variable {P:Program} {L:Ln} {N:Nat} {ops:Array Oper} {chk:List (Nat×Sp)→Bool} {Q:St→Prop} {l:List Oper} {E:List (Nat×AV)} {H:List (Nat×Option Blk)} {n:Nat} {tr:List (Nat×Sp)}
variable {ty:TypeId} {pos:String} {af:Array Edge} {g:Option (Nat×Bool)} {t:TypeId} {x y z:Operand}
end
section
variable {P:Program} {L:Ln} {N:Nat} {ops:Array Oper} {chk:List (Nat×Sp)→Bool} {Q:St→Prop} {l:List Oper} {S:St} {tr:List (Nat×Sp)} {d:Option Tmp} {ty:TypeId} {pos:String} {af:Array Edge} {g:Option (Nat×Bool)}
end
section
variable {S:St} {ρ:Nat→Nat} {G:List Nat} {lh:List (Nat×Option Blk)} {i T sz:Nat} {es es':List (List RV)} {cs cs':List AV} {e:List RV}
end
section
variable {H:Nat→Option Blk} {ρ:Nat→Nat} {as ds:List Blk} {T sz:Nat} {es es':List (List RV)} {cs cs':List AV}
end
/-! ## Calls whose result bears no new slice -/
mutual
def AV.plainB:AV→Bool
 |.r _=>true
 |.rp _=>true
 |.ag cs=>AV.plainsB cs
 |.tu cs=>AV.plainsB cs
 |.na=>true
 |_=>false
def AV.plainsB:List AV→Bool
 |[]=>true
 |c::cs=>AV.plainB c && AV.plainsB cs
end
mutual
theorem zfV:∀(a:AV) (k:Nat),a.plainB=true→a.unfr k=(a,[])∧a.ids=[]
 |.r _,k,_=>⟨rfl,rfl⟩
 |.rp _,k,_=>⟨rfl,rfl⟩
 |.na,k,_=>⟨rfl,rfl⟩
 |.ag cs,k,h=>by
  obtain⟨h1,h2⟩:=zdC cs k (by simpa only[AV.plainB]using h)
  exact⟨by rw[AV.unfr,h1],h2⟩
 |.tu cs,k,h=>by
  obtain⟨h1,h2⟩:=zdC cs k (by simpa only[AV.plainB]using h)
  exact⟨by rw[AV.unfr,h1],h2⟩
 |.ow _,k,h=>by cases h
 |.pt _ _,k,h=>by cases h
 |.pe _ _ _ _,k,h=>by cases h
 |.fr _ _ _,k,h=>by cases h
 |.ol _ _,k,h=>by cases h
 |.sv _ _,k,h=>by cases h
 |.so _ _ _ _,k,h=>by cases h
 |.cl _ _,k,h=>by cases h
theorem zdC:∀(as:List AV) (k:Nat),AV.plainsB as=true→AV.unfrs as k=(as,[])∧AV.idss as=[]
 |[],k,_=>⟨rfl,rfl⟩
 |a::as,k,h=>by
  rw[AV.plainsB,Bool.and_eq_true]at h
  obtain⟨h1,h2⟩:=zfV a k h.1
  obtain⟨h3,h4⟩:=zdC as (k+0) h.2
  exact⟨by rw[AV.unfrs,h1];simp only[List.length_nil,h3,List.append_nil],by rw[AV.idss,h2,h4];rfl⟩
end
section
variable {P:Program} {L:Ln} {N:Nat} {ops:Array Oper} {chk:List (Nat×Sp)→Bool} {Q:St→Prop} {l:List Oper} {E:List (Nat×AV)} {H:List (Nat×Option Blk)} {n:Nat} {tr:List (Nat×Sp)}
variable {d:Nat} {ty:TypeId} {pos:String} {af:Array Edge} {g:Option (Nat×Bool)}
theorem znZ {f:FuncId} {xs:Array Operand} {ats:Array TypeId} {ds:List AV} {r:AV} (G:List Nat) (rd:List (Nat×Blk)) (hm:zam P f ds [] r []) (hpl:r.plainB=true) (hargs:CfL (getH H) (fun i=>i) G (xs.toList.map (evA (get E))) ds) (hf:zdJ P f=true)
  (hrd:∀g∈G,∃b,(g,b)∈rd∧getH H g=some b) (hrd2:∀i b,(i,b)∈rd→getH H i=some b) (hv:G=[]∨r.vals) (hds:AV.idss ds=[])
  (hd:Nat.blt d N=true) (hg:za3 ops (get E) ⟨some d,.call { callee:=.value (.func f),args:=xs,argTypes:=ats},ty,pos,af,g⟩ true)
  (h:wpA P L N ops chk Q l ⟨(d,r)::E,H,n⟩ ((n,⟨true,rd,r,[],[]⟩)::tr)):
  wpA P L N ops chk Q (⟨some d,.call { callee:=.value (.func f),args:=xs,argTypes:=ats},ty,pos,af,g⟩::l) ⟨E,H,n⟩ tr:=by
 obtain⟨h1,h2⟩:=zfV r n hpl
 refine zdy G rd hm hargs hf hrd hrd2 hv hds ?_ hd hg ?_
 ·rw[h1];unfold rngB;rw[h2];rfl
 ·rw[h1];exact h
end
section
variable {post:List (Option Blk)} {P:Program} {L:Ln} {fn:Func} {S:St} {r s x y:AV} {t u:Nat} {F F' F'':List Nat}
end
section
variable {H:Nat→Option Blk} {L:Nat} {G:List Nat} {cs ds:List AV} {F F':List Nat} {i T sz:Nat} {es es':List (List RV)} {l:List (Option Blk)}
end
structure zgL (P:Program) (L:Ln) (fn:Func) (S:St) (r:AV) (post:List (Option Blk)):Prop where
 ex:∃x F G,(∀{C:Cx} {D:Nat→Prop} {Z:Nat→Value} {a:Act} {w:World},SimF C D S.envF S.HF Z a w→∃v,(results fn a.tmps).run P w= .ok v w∧x.rep Z (Own C S.HF Z) w v)∧Rt S.HF L.n G x r F∧zbl L F G=true
 post:∀i b,(i,some b)∈zaM 0 post→S.HF i=some b∧b.ids=[]
theorem zjv {P:Program} {fn:Func} {S:St} {r:AV} {pre:List Blk} {post:List (Option Blk)} {C:Cx} {a:Act} {w:World} {k:Nat} (hs:Sim C S a w) (hpl:post.length=C.nl) (hmv:C.ln.m=moved post) (hk:C.nl≤k) (hr:zgL P C.ln fn S r post):
  ∃v,(results fn a.tmps).run P w= .ok v w∧After k (zaq k pre r post) C.Z0 C.M0 C.w0 v w:=by
 obtain⟨Z,hs⟩:=hs
 obtain⟨⟨x,F,G,hx,hrt,hn⟩,hpost⟩:=hr
 obtain⟨v,hv,hrep⟩:=hx hs
 unfold zbl at hn
 simp only[Bool.and_eq_true,List.all_eq_true,zbv,decide_eq_true_eq]at hn
 obtain⟨⟨n1,n2⟩,n3⟩:=hn
 obtain⟨hl,hb⟩:=hrt.nums k
 refine⟨v,hv,fun i=>if k≤i∧i<k+F.length then Z (F.getD (i-k) 0)else C.Z0 i,?_⟩
 generalize hZ:(fun i=>if k≤i∧i<k+F.length then Z (F.getD (i-k) 0)else C.Z0 i)=Z'
 have hZ1:∀(j i:Nat),F[j]? =some i→Z' (k+j)=Z i:=by
  intro j i hj
  have hjl:j<F.length:=by
   rcases Nat.lt_or_ge j F.length with h'|h'
   ·exact h'
   ·rw[List.getElem?_eq_none h']at hj;cases hj
  rw[←hZ]
  simp only
  rw[if_pos (by omega),show k+j-k=j by omega,List.getD_eq_getElem?_getD,hj]
  rfl
 have hZ2:∀i,i<C.nl→Z' i=Z i:=by
  intro i hi
  rw[←hZ]
  simp only
  rw[if_neg (by omega),(hs.zl i hi).1]
 have hfr:∀j,j<F.length→∃i b,F[j]? =some i∧S.HF i=some b∧i∈F:=by
  intro j hj
  have h1:(r.unfr k).2[j]? =some ((r.unfr k).2[j]'(by omega)):=List.getElem?_eq_getElem _
  obtain⟨i,T,sz,es,h2,h3,_⟩:=hb j _ h1
  exact⟨i,_,h2,h3,List.mem_of_getElem? h2⟩
 have hlen:(zaq k pre r post).frs.length=F.length:=hl
 have hB:∀q,q<w.heap.size→New k (zaq k pre r post) Z' C.M0 q→Own C S.HF Z q:=by
  rintro q _ (h0|⟨j,hj,hjq⟩)
  ·exact .inl h0
  ·obtain⟨i,b,h1,h2,_⟩:=hfr j (by omega)
   rw[hZ1 j i h1]at hjq
   exact .inr ⟨i,b,h2,hjq⟩
 have hG:∀j b,j∈G→S.HF j=some b→held Z (Own C S.HF Z) w j b∧∀x,blk (Z j)=some x→¬New k (zaq k pre r post) Z' C.M0 x:=by
  intro j b hj hjb
  refine⟨(hs.holds j b hjb).1,fun x hx=>?_⟩
  obtain⟨⟨g0,g1⟩,g2⟩:=n2 j hj
  have g0:=Nat.eq_of_beq_eq_true g0
  rintro(h0|⟨q,hq,hqx⟩)
  ·have :=hs.m0 x h0
   rcases hs.fresh j b x hjb hx with h3|h3|⟨q,h3,_⟩
   ·unfold Cx.nl at h3;omega
   ·omega
   ·omega
  ·obtain⟨i,c,h1,h2,h3⟩:=hfr q (by omega)
   rw[hZ1 q i h1]at hqx
   have hne:j≠i:=fun e=>by have :=g2 i h3;simp[e]at this
   exact hs.dist j i b c hjb h2 hne x hx hqx
 refine⟨fun i hi=>?_,hrt.rep hB hG hZ2 k hZ1 v hrep,fun i b hib=>?_,fun j b hjb=>?_,fun j j' q hj hj' hne h1 h2=>?_,fun j q hj hq=>?_,?_⟩
 ·rw[←hZ]
  simp only
  rw[if_neg (by omega)]
 ·have hm:(i,some b)∈zaM 0 post:=hib
  obtain⟨h1,h2⟩:=hpost i b hm
  have hi:i<C.nl:=by
   have h3:=(zaK.1 hm).2
   have :i-0<post.length:=by
    rcases Nat.lt_or_ge (i-0) post.length with h'|h'
    ·exact h'
    ·rw[List.getElem?_eq_none h']at h3;cases h3
   omega
  exact((hs.holds i b h1).1).keep (Upto.refl _) hB (hZ2 i hi) (fun q hq=>by rw[h2]at hq;cases hq) (fun _ _=>rfl)
 ·obtain⟨i,T,sz,es,h1,h2,h3⟩:=hb j b hjb
  subst h3
  obtain⟨us,g1,g2,g3⟩:=(hs.holds i _ h2).1
  exact⟨us,by rw[hZ1 j i h1];exact g1,g2.mono (Upto.refl _) hB,g3⟩
 ·obtain⟨i,b,h3,h4,_⟩:=hfr j (by omega)
  obtain⟨i',b',h5,h6,_⟩:=hfr j' (by omega)
  rw[hZ1 j i h3]at h1
  rw[hZ1 j' i' h5]at h2
  refine hs.dist i i' b b' h4 h6 (fun e=>hne ?_) q h1 h2
  subst e
  have hj1:j<F.length:=by omega
  have hj2:j'<F.length:=by omega
  rw[List.getElem?_eq_getElem hj1]at h3
  rw[List.getElem?_eq_getElem hj2]at h5
  injection h3 with h3
  injection h5 with h5
  have hp:=List.pairwise_iff_getElem.1 n3
  rcases Nat.lt_trichotomy j j' with h|h|h
  ·exact absurd (h3.trans h5.symm) (hp j j' hj1 hj2 h)
  ·exact h
  ·exact absurd (h5.trans h3.symm) (hp j' j hj2 hj1 h)
 ·obtain⟨i,b,h3,h4,h5⟩:=hfr j (by omega)
  rw[hZ1 j i h3]at hq
  have :=n1 i h5
  rcases hs.fresh i b q h4 hq with h6|h6|⟨p,h6,h7⟩
  ·unfold Cx.nl at h6;omega
  ·exact .inl h6
  ·exact .inr ⟨p,zaK.2 ⟨Nat.zero_le _,by rw[Nat.sub_zero];exact zeo post p (by omega)⟩,h7⟩
 ·refine hs.frame.mono fun q _=>?_
  rintro⟨i,hi,hiq⟩
  have :i<post.length:=by omega
  refine⟨i,post[i],zaK.2 ⟨Nat.zero_le _,?_⟩,hiq⟩
  simp[this]
theorem zfM {P:Program} {f:FuncId} {fn:Func} {c:Code} {args:List AV} {pre:List Blk} {post:List (Option Blk)} {r:AV} (hf:P.funcs[f]? =some fn) (hb:fn.body=some c) (hn:args.length≤fn.ntmps) (hok:ze4 args pre=true) (hpl:post.length=pre.length)
  (h:awp P ⟨pre.length,moved post⟩ fn.ntmps c (fun e S=>(e= .normal∨e= .ret)∧zgL P ⟨pre.length,moved post⟩ fn S r post) (St0 args pre)):zam P f args pre r post:=by
 intro w Z M k us hM hk hargs hpre hdist
 unfold ze4 at hok
 simp only[Bool.and_eq_true,List.all_eq_true,za2]at hok
 obtain⟨o1,o2⟩:=hok
 have hlen:=AV.reps_len hargs
 let C:Cx:=⟨P,w,M,Z,⟨pre.length,moved post⟩,fn.ntmps,[]⟩
 have hmv:moved post≤pre.length:=by
  have :∀l:List (Option Blk),moved l≤l.length:=by
   intro l
   induction l with
   |nil=>exact Nat.le_refl _
   |cons x l ih=>cases x<;>simp[moved];omega
  have :=this post
  omega
 have hH:∀i b,(St0 args pre).HF i=some b→(i,b)∈numd 0 pre:=fun i b h=>zfN 0 pre i b h
 have hlt:∀i b,(i,b)∈numd 0 pre→i<pre.length∧b∈pre:=by
  intro i b h
  have h1:=(zdp.1 h).2
  rw[Nat.sub_zero]at h1
  refine⟨?_,List.mem_of_getElem? h1⟩
  rcases Nat.lt_or_ge i pre.length with h'|h'
  ·exact h'
  ·rw[List.getElem?_eq_none h']at h1;cases h1
 have hB:∀q,q<w.heap.size→Own C (St0 args pre).HF Z q→M q:=by
  rintro q _ (h0|⟨i,b,h1,h2⟩)
  ·exact h0
  ·exact(hpre i b (hH i b h1)).2 q h2
 have S:Sim C (St0 args pre) { tmps:=us.toArray++Array.replicate (fn.ntmps-us.toArray.size) undef,defers:=[]} w:=by
  refine⟨Z,by simp[C];omega,rfl,Upto.refl _,hM,fun t=>?_,fun t i hi=>?_,fun i b hb=>?_,fun i j b c hi hj hij=>?_,fun i b x hi hx=>.inl (hlt i b (hH i b hi)).1,hmv,fun i hi=>⟨rfl,hi⟩⟩
  ·show(get (numE 0 args) t).rep _ _ _ _
   rw[zcx,if_pos (Nat.zero_le _),Nat.sub_zero,List.getD_eq_getElem?_getD]
   cases ht:args[t]? with
   |none=>simp only[Option.getD_none,AV.rep]
   |some x=>
    obtain⟨u,hu,hr⟩:=AV.reps_get hargs ht
    simp only[Option.getD_some]
    refine AV.rep_mono (Upto.refl _) hB x (fun _ _=>rfl) _ ?_
    have htl:t<us.length:=by
     rcases Nat.lt_or_ge t us.length with h'|h'
     ·exact h'
     ·rw[List.getElem?_eq_none h']at hu;cases hu
    have :(us.toArray++Array.replicate (fn.ntmps-us.toArray.size) undef).getD t undef=u:=by
     rw[Array.getD_eq_getD_getElem?,Array.getElem?_append_left (by simpa using htl)]
     simp[hu]
    rw[this];exact hr
  ·have hi':i∈(get (numE 0 args) t).ids:=hi
   rw[zcx,if_pos (Nat.zero_le _),Nat.sub_zero,List.getD_eq_getElem?_getD]at hi'
   cases ht:args[t]? with
   |none=>rw[ht]at hi';simp[AV.ids]at hi'
   |some x=>rw[ht]at hi';exact o1 i (za5 (List.mem_of_getElem? ht) hi')
  ·have h1:=hH i b hb
   obtain⟨h2,h3⟩:=hlt i b h1
   exact⟨(hpre i b h1).1.anti hB,h2,fun j hj=>o2 b h3 j hj⟩
  ·exact hdist i j b c (hH i b hi) (hH j c hj) hij
 refine calls_of_wp hf hb (Code.wp_mono (fun e a' w' ⟨S',⟨he,hr⟩,hS'⟩=>?_) (h C rfl rfl rfl _ _ S))
 obtain⟨v,hv,hA⟩:=zjv (pre:=pre) (k:=k) hS' hpl rfl hk hr
 have hdf:a'.defers=[]:=by obtain⟨Z,h⟩:=hS';exact h.defers
 rcases he with rfl|rfl
 ·exact⟨hdf,v,hv,v,rfl,hA⟩
 ·exact⟨hdf,v,hv,v,rfl,hA⟩
structure zmt (fn:Func) (S:St) (post:List (Option Blk)):Prop where
 res:fn.results= #[]
 post:∀i b,(i,some b)∈zaM 0 post→S.HF i=some b∧b.ids=[]
theorem ret0 {fn:Func} {S:St} {post:List (Option Blk)} (hres:fn.results= #[]) (hp:∀i b,(i,some b)∈zaM 0 post→getH S.H i=some b∧b.ids=[]) {e:Exit} (he:e= .normal∨e= .ret):(e= .normal∨e= .ret)∧zmt fn S post:=⟨he,⟨hres,hp⟩⟩
theorem zcC {S:St} {c:Blk} (h:getH S.H 0=some c) (hi:c.ids=[]):∀i b,(i,some b)∈zaM 0 [some c]→getH S.H i=some b∧b.ids=[]:=by
 intro i b hm
 simp[zaM]at hm
 obtain⟨rfl,rfl⟩:=hm
 exact⟨h,hi⟩
theorem zjX {P:Program} {f:FuncId} {fn:Func} {c:Code} {args:List AV} {pre:List Blk} {post:List (Option Blk)} (hf:P.funcs[f]? =some fn) (hb:fn.body=some c) (hn:args.length≤fn.ntmps) (hok:ze4 args pre=true) (hpl:post.length=pre.length)
  (h:awp P ⟨pre.length,moved post⟩ fn.ntmps c (fun e S=>(e= .normal∨e= .ret)∧zmt fn S post) (St0 args pre)):zam P f args pre (.tu []) post:=
 zfM hf hb hn hok hpl (zlj h fun e S ⟨he,hr⟩=>⟨he,⟨.tu [],[],[],fun _=>⟨_,results_none hr.res _ _ _,by rw[AV.rep];exact⟨#[],rfl,by rw[AV.reps]⟩⟩,.tu _ _ _ .nil,rfl⟩,hr.post⟩)
theorem zhg {P:Program} {fn:Func} {r s t q:ResultVar} {tmps:Array Value} {w:World} {v u x y:Value} (h:fn.results= #[r,s,t,q]) (h1:(zbB tmps r).run P w= .ok v w) (h2:(zbB tmps s).run P w= .ok u w) (h3:(zbB tmps t).run P w= .ok x w) (h4:(zbB tmps q).run P w= .ok y w):(results fn tmps).run P w= .ok (.tuple #[v,u,x,y]) w:=by
 have :(results fn tmps).run P w=((zbB tmps r).run P w).andThen fun v w=>((zbB tmps s).run P w).andThen fun u w=>((zbB tmps t).run P w).andThen fun x w=>((zbB tmps q).run P w).andThen fun y w=>.ok (.tuple #[v,u,x,y]) w:=by
  cases r<;>cases s<;>cases t<;>cases q<;>simp[results,h,zbB,zeI,zli]
 rw[this,h1];simp only[Result.andThen_ok,h2,h3,h4]
theorem zoy {post:List (Option Blk)} {P:Program} {L:Ln} {fn:Func} {S:St} {r1 r2 r3 r4:ResultVar} {a b c d x y z q:AV} {F1 F2 F3 F4:List Nat} (G:List Nat) (v1:ResV P S r1 x) (v2:ResV P S r2 y) (v3:ResV P S r3 z) (v4:ResV P S r4 q) (h1:Rt (getH S.H) L.n G x a F1) (h2:Rt (getH S.H) L.n G y b F2) (h3:Rt (getH S.H) L.n G z c F3) (h4:Rt (getH S.H) L.n G q d F4) (hres:fn.results= #[r1,r2,r3,r4])
  (hp:∀i b,(i,some b)∈zaM 0 post→getH S.H i=some b∧b.ids=[]) (hn:zbl L (F1++(F2++(F3++(F4++[])))) G=true):(Exit.ret= .normal∨Exit.ret= .ret)∧zgL P L fn S (.tu [a,b,c,d]) post:=
 ⟨.inr rfl,⟨⟨.tu [x,y,z,q],_,G,fun {C D Z A w} hs=>by
  obtain⟨u1,g1,k1⟩:=v1.run hs
  obtain⟨u2,g2,k2⟩:=v2.run hs
  obtain⟨u3,g3,k3⟩:=v3.run hs
  obtain⟨u4,g4,k4⟩:=v4.run hs
  refine⟨_,zhg hres g1 g2 g3 g4,?_⟩
  simp only[AV.rep,AV.reps]
  exact⟨_,rfl,u1,_,rfl,k1,u2,_,rfl,k2,u3,_,rfl,k3,u4,_,rfl,k4,rfl⟩,.tu _ _ _ (.cons _ _ _ _ _ _ h1 (.cons _ _ _ _ _ _ h2 (.cons _ _ _ _ _ _ h3 (.cons _ _ _ _ _ _ h4 .nil)))),hn⟩,hp⟩⟩
theorem ret4 {P:Program} {L:Ln} {fn:Func} {S:St} {a b c d x y z q:AV} {t1 t2 t3 t4:Nat} {F1 F2 F3 F4:List Nat} (G:List Nat) (h1:Rt (getH S.H) L.n G x a F1) (h2:Rt (getH S.H) L.n G y b F2) (h3:Rt (getH S.H) L.n G z c F3) (h4:Rt (getH S.H) L.n G q d F4) (hres:fn.results= #[.tmp t1,.tmp t2,.tmp t3,.tmp t4])
  (g1:get S.env t1=x) (g2:get S.env t2=y) (g3:get S.env t3=z) (g4:get S.env t4=q) (hn:zbl L (F1++(F2++(F3++(F4++[])))) G=true):(Exit.ret= .normal∨Exit.ret= .ret)∧zgL P L fn S (.tu [a,b,c,d]) []:=
 zoy G (.tmp _ _ g1) (.tmp _ _ g2) (.tmp _ _ g3) (.tmp _ _ g4) h1 h2 h3 h4 hres (fun i b h=>by simp[zaM]at h) hn
end Go.Ab
namespace Go.Proofs.YthiioppfnmcclaaGreat
open Go.RowKit Go.Ab
end Go.Proofs.YthiioppfnmcclaaGreat
namespace Go.Ab
open Go.RowKit
structure FOk (P:Program) (F:Fence) (n:Nat):Prop where
 fn:∀f,F.fn f
 calls:∀f args w R,Calls P f args w R→CallsIn F (n-1) P f args w R
 depth:F.depth.isSome=true→1≤n
theorem zlw (P:Program) (n:Nat):FOk P Fence.wide n:=⟨fun _=>trivial,fun f args w R h=>callsIn_wide.2 h,fun h=>by cases h⟩
theorem zg0 (P:Program) (l n:Nat):FOk P (Fence.wide.inRound l) n:=⟨fun _=>trivial,fun f args w R h=>CallsIn.inRound l (callsIn_wide.2 h),fun h=>by cases h⟩
theorem zfH {P:Program} {o:Oper} {a:Act} {w:World} {R:Value→World→Prop} (h:Exec P o a w R):∀c,o.op≠ .defer c:=by
 intro c hc
 unfold Exec at h
 have :execOp a.eval o=(do pure (.defer (←resolve a.eval c o.type)):Sem Next):=by
  obtain⟨d,op,ty,pos,af,g⟩:=o
  simp only at hc
  subst hc
  rfl
 rw[this]at h
 simp only[Sem.run_bind,Sem.run_pure]at h
 generalize(resolve a.eval c o.type).run P w=r at h
 cases r<;>simp[Result.andThen]at h
section
variable {F:Fence} {n:Nat} {P:Program}
theorem Exec.wpIn {o:Oper} {a:Act} {w:World} {R:Value→World→Prop} {next :Act→World→Prop} {Q:Exit→Act→World→Prop} (hF:FOk P F n) (h:Exec P o a w R) (hn:∀v w',R v w'→next (a.put o.dst v) w'):o.wpIn F n P a w next Q:=by
 refine⟨fun f _=>hF.fn f,?_⟩
 rw[Oper.semAt_plain F _ _ (zfH h)]
 unfold Exec at h
 generalize(execOp a.eval o).run P w=r at *
 cases r with
 |ok x w'=>
  cases x<;>simp only[Oper.uponIn]at h ⊢
  case value v=>exact hn _ _ h
  case skip=>exact hn _ _ h
  case enter f args=>exact⟨hF.depth,(hF.calls _ _ _ _ h).mono fun e w'' ⟨v,e1,hr⟩=>by subst e1;exact hn _ _ hr⟩
 |halt x w'=>exact h.elim
theorem SimF.operIn {N:Nat} {ops:Array Oper} {o:Oper} {C:Cx} {D:Nat→Prop} {env:Nat→AV} {H:Nat→Option Blk} {Z:Nat→Value} {a:Act} {w:World} {k:Nat} {sp:Sp} {next :Act→World→Prop} {Q:Exit→Act→World→Prop} (hF:FOk P F n)
  (S:SimF C D env H Z a w) (hP:C.P=P) (hN:C.N=N) (hdst:∀x,o.dst=some x→x<N) (hw:za3 ops env o sp.run) (hok:sp.run=true→OpOk P o env k sp) (hskip:sp.run=false→sp=zaV) (hsp:SpOk C.ln D H k sp)
  (hn:∀Z' a' w',SimF C (fun i=>D i∨(k≤i∧i<k+sp.frs.length)) (updE o.dst sp.out env) (updH k sp H) Z' a' w'→next a' w'):
  if Region.wanted o (yielded ops a.tmps)then o.wpIn F n P a w next Q else(∀f,o.about P w a.eval=some f→F.fn f)∧next (a.put o.dst undef) w:=by
 rw[zfF S hw]
 cases hr:sp.run with
 |true=>
  rw[if_pos rfl]
  refine(hok hr a w Z (Own C H Z) S.m_lt (fun x _=>S.ev x) (fun i b hb=>⟨(S.holds i b (hsp.rd i b hb)).1,fun x hx=>.inr ⟨i,b,hsp.rd i b hb,hx⟩⟩) (fun i j b c hb hc hij x hx=>S.dist i j b c (hsp.rd i b hb) (hsp.rd j c hc) hij x hx)).wpIn hF fun v w' hA=>?_
  obtain⟨Z',S'⟩:=S.step hsp (d:=o.dst) (fun x hx=>hN▸hdst x hx) hA
  exact hn _ _ _ S'
 |false=>
  rw[if_neg (by simp)]
  have e:=hskip hr
  obtain⟨Z',S'⟩:=S.step hsp (d:=o.dst) (v:=undef) (w':=w) (fun x hx=>hN▸hdst x hx) ⟨Z,by
   subst e
   exact⟨fun _ _=>rfl,by simp only[zaV,AV.rep,RV.rep],fun i b h=>by simp[zaV]at h,fun j b h=>by simp[zaV]at h,fun j j' x h=>by simp[zaV]at h,fun j x h=>by simp[zaV]at h,Upto.refl _⟩⟩
  exact⟨fun f _=>hF.fn f,hn _ _ _ S'⟩
theorem zcX {ops:Array Oper} {chk:List (Nat×Sp)→Bool} {Q:St→Prop} {Q':Exit→Act→World→Prop} {C:Cx} (hF:FOk P F n) (hP:C.P=P) {rest:List Oper} (hQ:∀S a w,Q S→Sim C S a w→wpListIn F n P ops Q' rest a w):
  ∀(l:List Oper) (S:St) (tr:List (Nat×Sp)) (a:Act) (w:World),wpA P C.ln C.N ops chk Q l S tr→Sim C S a w→wpListIn F n P ops Q' (l++rest) a w
 |[],S,tr,a,w,h,hs=>hQ S a w h.2 hs
 |o::l,S,tr,a,w,⟨sp,h1,h2⟩,⟨Z,hs⟩=>by
  rw[List.cons_append]
  unfold wpListIn
  have hsp:=h1.sp (fun i=>i<S.nx) hs.ids (fun i b hb=>⟨(hs.holds i b hb).2.1,(hs.holds i b hb).2.2⟩) (fun i hi=>.inl hi)
  refine hs.operIn hF (k:=S.nx) (sp:=sp) hP rfl h1.dst h1.want h1.ok h1.skip hsp fun Z' a' w' hs'=>?_
  refine zcX hF hP hQ l (S.app o.dst sp) _ a' w' h2 ⟨Z',?_⟩
  rw[zf7,zlh]
  exact hs'.monoD fun i hi=>by
   show i<S.nx+sp.frs.length
   have :∀i,i<S.nx∨(S.nx≤i∧i<S.nx+sp.frs.length)→i<S.nx+sp.frs.length:=by intro i h;omega
   exact this i hi
def zeG (F:Fence) (n:Nat) (P:Program) (L:Ln) (N:Nat) (c:Code) (Q:Exit→St→Prop) (S:St):Prop:=
 ∀(C:Cx),C.P=P→C.ln=L→C.N=N→∀a w,Sim C S a w→c.wpIn F n P (fun e a' w'=>∃S',Q e S'∧Sim C S' a' w') a w
section
variable {L:Ln} {N:Nat} {Q:Exit→St→Prop} {S:St}
theorem ze7 {x y:Code} (h:zeG F n P L N x (zmi (zeG F n P L N y Q) Q) S):zeG F n P L N (.seq x y) Q S:=by
 intro C h1 h2 h3 a w hs
 refine wpIn_seq (wpIn_mono (h C h1 h2 h3 a w hs) fun e a' w' ⟨S',h4,h5⟩=>?_)
 cases e with
 |normal=>exact h4 C h1 h2 h3 a' w' h5
 |exit id=>exact⟨S',h4,h5⟩
 |goto l=>exact⟨S',h4,h5⟩
 |ret=>exact⟨S',h4,h5⟩
 |panic ch=>exact⟨S',h4,h5⟩
 |outgrown=>exact⟨S',h4,h5⟩
theorem zdz {id:Nat} {c:Code} (h:zeG F n P L N c (zgP id Q) S):zeG F n P L N (.block id c) Q S:=by
 intro C h1 h2 h3 a w hs
 refine wpIn_block (wpIn_mono (h C h1 h2 h3 a w hs) fun e a' w' ⟨S',h4,h5⟩=>?_)
 cases e with
 |normal=>exact⟨S',h4,h5⟩
 |exit id'=>
  simp only[Exit.inBlock]
  simp only[zgP]at h4
  by_cases hid:id'=id
  ·subst hid
   rw[if_pos rfl]
   rw[show Nat.beq id' id'=true by simp]at h4
   exact⟨S',h4,h5⟩
  ·rw[if_neg hid]
   have :Nat.beq id' id=false:=by cases hb:Nat.beq id' id with
    |false=>rfl
    |true=>exact absurd (Nat.eq_of_beq_eq_true hb) hid
   rw[this]at h4
   exact⟨S',h4,h5⟩
 |goto l=>exact⟨S',h4,h5⟩
 |ret=>exact⟨S',h4,h5⟩
 |panic ch=>exact⟨S',h4,h5⟩
 |outgrown=>exact⟨S',h4,h5⟩
theorem zcY {id:Nat} {l:List Oper} (hF:FOk P F n) (h:wpA P L N l.toArray (fun _=>true) (Q .normal) l S []):zeG F n P L N (.region id l.toArray false) Q S:=by
 intro C h1 h2 h3 a w hs
 subst h1 h2 h3
 refine wpIn_region_lit ?_
 have :=zcX (ops:=l.toArray) (rest:=[]) (Q':=fun e a' w'=>∃S',Q e S'∧Sim C S' a' w') hF rfl (fun S' a' w' h4 h5=>⟨S',h4,h5⟩) l S [] a w h hs
 rwa [List.append_nil]at this
end
end
structure Kp (B B':Nat→Prop) (W W':World):Prop where
 up:Upto B W W'
 old:∀k,k<W.heap.size→B' k→B k
theorem Kp.refl (B:Nat→Prop) (W:World):Kp B B W W:=⟨Upto.refl _,fun _ _ h=>h⟩
theorem Kp.trans {B B1 B2:Nat→Prop} {U V W:World} (h:Kp B B1 U V) (k:Kp B1 B2 V W):Kp B B2 U W:=
 ⟨⟨k.up.os.trans h.up.os,k.up.tape.trans h.up.tape,k.up.output.trans h.up.output,Nat.le_trans h.up.size k.up.size,fun x hx hn=>(k.up.block x (Nat.lt_of_lt_of_le hx h.up.size) fun hb=>hn (h.old x hx hb)).trans (h.up.block x hx hn)⟩,fun x hx hd=>h.old x hx (k.old x (Nat.lt_of_lt_of_le hx h.up.size) hd)⟩
theorem Kp.below {B:Nat→Prop} {W W':World} (hb:Below W.heap.size W W'):Kp B B W W':=⟨Upto.of_below hb,fun _ _ h=>h⟩
theorem Kp.rep {B B':Nat→Prop} {W W':World} {Z Z':Nat→Value} (h:Kp B B' W W') {c:AV} {u:Value} (hz:∀i∈c.ids,Z' i=Z i) (hr:AV.rep Z B W c u):AV.rep Z' B' W' c u:=AV.rep_mono h.up h.old c hz u hr
section
variable {C:Cx} {S:St} {F F1 F2:Fam} {a:Act} {w:World} {Z:Nat→Value} {K:Nat}
theorem SimK.world (h:SimK C S F a w Z K) {w':World} (hb:Below w.heap.size w w'):SimK C S F a w' Z K:=⟨h.le,h.top,h.eid,h.bid,h.fam,h.sim.world hb⟩
theorem SimX.world (h:SimX C S F a w) {w':World} (hb:Below w.heap.size w w'):SimX C S F a w':=by
 obtain⟨Z,K,h⟩:=h
 exact⟨Z,K,h.world hb⟩
theorem SimK.reobj (hl:C.ln=⟨0,0⟩) {l:Nat} {o o':Obj} (h:SimK C S (F1++(.pointer (some ⟨l,0,none⟩),.obj o)::F2) a w Z K) (ho:∀cs T fr,o'≠ .cells cs T fr):
  w.heap[l]? =some o∧SimK C S (F1++(.pointer (some ⟨l,0,none⟩),.obj o')::F2) a (w.putObj l o') Z K∧Kp (Own C (famH K S.HF (F1++(.pointer (some ⟨l,0,none⟩),.obj o)::F2)) Z) (Own C (famH K S.HF (F1++(.pointer (some ⟨l,0,none⟩),.obj o')::F2)) Z) w (w.putObj l o'):=by
 have hs:=h.sim
 have hnl:C.nl=0:=by unfold Cx.nl;rw[hl]
 have hm0:C.ln.m=0:=by rw[hl]
 have hmid:(F1++(.pointer (some ⟨l,0,none⟩),Blk.obj o)::F2)[F1.length]? =some (.pointer (some ⟨l,0,none⟩),Blk.obj o):=by rw[List.getElem?_append_right (Nat.le_refl _),Nat.sub_self];rfl
 obtain⟨f1,_⟩:=h.fam _ _ hmid
 simp only at f1
 obtain⟨b,e1,hg,_⟩:=(hs.holds _ _ (h.fm hmid)).1
 have hb:b=l:=by rw[f1]at e1;injection e1 with e1;injection e1 with e1;injection e1 with e1;exact e1.symm
 subst hb
 have hlt:=zbY hg
 refine⟨hg,?_⟩
 have hlen:(F1++(.pointer (some ⟨b,0,none⟩),Blk.obj o')::F2).length=(F1++(.pointer (some ⟨b,0,none⟩),Blk.obj o)::F2).length:=by simp
 have hfam:∀j,(F1++(.pointer (some ⟨b,0,none⟩),Blk.obj o')::F2)[j]? =if j=F1.length then some (.pointer (some ⟨b,0,none⟩),Blk.obj o')else(F1++(.pointer (some ⟨b,0,none⟩),Blk.obj o)::F2)[j]? :=by
  intro j
  split
  ·rename_i hj;subst hj;rw[List.getElem?_append_right (Nat.le_refl _),Nat.sub_self];rfl
  ·rename_i hj
   rcases Nat.lt_or_ge j F1.length with h1|h1
   ·rw[List.getElem?_append_left h1,List.getElem?_append_left h1]
   ·rw[List.getElem?_append_right h1,List.getElem?_append_right h1,show j-F1.length=(j-F1.length-1)+1 by omega,List.getElem?_cons_succ,List.getElem?_cons_succ]
 have hU:Upto (fun q=>q=b) w (w.putObj b o'):=⟨rfl,rfl,rfl,by simp,fun k _ hne=>World.putObj_heap_other hne⟩
 have hbx:∀x,blk (Z (K+F1.length))=some x→x=b:=fun x hx=>by rw[f1]at hx;simpa[blk]using hx.symm
 have hbo:blk (Z (K+F1.length))=some b:=by rw[f1];rfl
 have hfresh:C.w0.heap.size≤b:=by
  rcases hs.fresh _ _ b (h.fm hmid) hbo with g|g|⟨q,g,_⟩
  ·omega
  ·exact g
  ·omega
 have old:∀i c,famH K S.HF (F1++(.pointer (some ⟨b,0,none⟩),Blk.obj o')::F2) i=some c→(i=K+F1.length∧c= .obj o')∨(i≠K+F1.length∧famH K S.HF (F1++(.pointer (some ⟨b,0,none⟩),Blk.obj o)::F2) i=some c):=by
  intro i c hi
  rcases zaG hi with⟨h1,h2⟩|⟨j,p,rfl,h2,h3⟩
  ·exact .inr ⟨by omega,by rw[zcM h1];exact h2⟩
  ·rw[hfam]at h2
   split at h2
   ·rename_i hj;subst hj;injection h2 with h2;subst h2;exact .inl ⟨rfl,h3.symm⟩
   ·rename_i hj;exact .inr ⟨by omega,by rw[zge,h2,←h3];rfl⟩
 have hB:∀k,Own C (famH K S.HF (F1++(.pointer (some ⟨b,0,none⟩),Blk.obj o')::F2)) Z k→Own C (famH K S.HF (F1++(.pointer (some ⟨b,0,none⟩),Blk.obj o)::F2)) Z k:=by
  rintro k (hk|⟨i,c,hi,hx⟩)
  ·exact .inl hk
  ·rcases old i c hi with⟨rfl,_⟩|⟨_,h1⟩
   ·exact .inr ⟨_,_,h.fm hmid,hx⟩
   ·exact .inr ⟨i,c,h1,hx⟩
 have hUM:Upto (Own C (famH K S.HF (F1++(.pointer (some ⟨b,0,none⟩),Blk.obj o)::F2)) Z) w (w.putObj b o'):=hU.mono fun k _ hk=>by subst hk;exact .inr ⟨_,_,h.fm hmid,hbo⟩
 refine⟨⟨h.le,h.top,h.eid,h.bid,fun j p hj=>?_,hs.size,hs.defers,?_,hs.m0,fun t=>AV.rep_mono hUM (fun k _ hk=>hB k hk) _ (fun _ _=>rfl) _ (hs.slots t),fun t i hi=>.inl (h.eid t i hi),fun i c hi=>?_,fun i j c d hi hj hij x hx hx2=>?_,fun i c x hi hx=>?_,hs.lm,fun i hi=>by omega⟩,⟨hUM,fun k _ hk=>hB k hk⟩⟩
 ·rw[hfam]at hj
  split at hj
  ·rename_i e;subst e;injection hj with hj;subst hj;exact⟨f1,rfl⟩
  ·exact h.fam j p hj
 ·refine⟨hs.frame.os,hs.frame.tape,hs.frame.output,by simpa using hs.frame.size,fun k hk hkl=>?_⟩
  exact(World.putObj_heap_other (by omega)).trans (hs.frame.block k hk hkl)
 ·rcases old i c hi with⟨rfl,rfl⟩|⟨hne,h1⟩
  ·exact⟨⟨b,f1,World.putObj_heap_same hlt,ho⟩,.inr ⟨by omega,by simp⟩,fun q hq=>by simp[Blk.ids]at hq⟩
  ·obtain⟨g1,g2,g3⟩:=hs.holds i c h1
   refine⟨g1.keep hUM (fun k _ hk=>hB k hk) rfl (fun _ _=>rfl) fun x hx=>World.putObj_heap_other fun e=>?_,by rw[hlen];exact g2,by rw[hlen];exact g3⟩
   exact hs.dist i _ c _ h1 (h.fm hmid) hne x hx (by rw[hbo,e])
 ·rcases old i c hi with⟨rfl,rfl⟩|⟨h0,h1⟩<;>rcases old j d hj with⟨rfl,rfl⟩|⟨h2,h3⟩
  ·exact hij rfl
  ·exact hs.dist _ j _ d (h.fm hmid) h3 hij x hx hx2
  ·exact hs.dist i _ c _ h1 (h.fm hmid) hij x hx hx2
  ·exact hs.dist i j c d h1 h3 hij x hx hx2
 ·rcases old i c hi with⟨rfl,rfl⟩|⟨h0,h1⟩
  ·exact hs.fresh _ _ x (h.fm hmid) hx
  ·exact hs.fresh i c x h1 hx
theorem SimK.newobj (hl:C.ln=⟨0,0⟩) {o:Obj} (h:SimK C S F a w Z K) (ho:∀cs T fr,o≠ .cells cs T fr):
  ∃Z',SimK C S (F++[(.pointer (some ⟨w.heap.size,0,none⟩),.obj o)]) a (w.alloc o) Z' K∧(∀i,i<S.nx→Z' i=Z i)∧Kp (Own C (famH K S.HF F) Z) (Own C (famH K S.HF (F++[(.pointer (some ⟨w.heap.size,0,none⟩),.obj o)])) Z') w (w.alloc o):=by
 have hs:=h.sim
 have hle:S.nx≤K:=h.le
 have hnl:C.nl=0:=by unfold Cx.nl;rw[hl]
 have hm0:C.ln.m=0:=by rw[hl]
 have hU:Upto (Own C (famH K S.HF F) Z) w (w.alloc o):=Upto.alloc w o
 let Z':Nat→Value:=fun i=>if i=K+F.length then .pointer (some ⟨w.heap.size,0,none⟩)else Z i
 have z1:Z' (K+F.length)= .pointer (some ⟨w.heap.size,0,none⟩):=if_pos rfl
 have z2:∀i,i≠K+F.length→Z' i=Z i:=fun i hi=>if_neg hi
 have old:∀i c,famH K S.HF (F++[(.pointer (some ⟨w.heap.size,0,none⟩),Blk.obj o)]) i=some c→(i=K+F.length∧c= .obj o)∨(i≠K+F.length∧famH K S.HF F i=some c):=by
  intro i c hi
  rcases zaG hi with⟨h1,h2⟩|⟨j,p,rfl,h2,h3⟩
  ·exact .inr ⟨by omega,by rw[zcM h1];exact h2⟩
  ·rcases Nat.lt_or_ge j F.length with hj|hj
   ·rw[List.getElem?_append_left hj]at h2
    exact .inr ⟨by omega,by rw[zge,h2,←h3];rfl⟩
   ·rw[List.getElem?_append_right hj]at h2
    have hj0:j=F.length:=by
     rcases Nat.lt_or_ge (j-F.length) 1 with h|h
     ·omega
     ·rw[List.getElem?_eq_none (by simpa using h)]at h2;cases h2
    subst hj0
    rw[Nat.sub_self]at h2
    injection h2 with h2
    subst h2
    exact .inl ⟨rfl,h3.symm⟩
 have hB:∀k,k<w.heap.size→Own C (famH K S.HF (F++[(.pointer (some ⟨w.heap.size,0,none⟩),Blk.obj o)])) Z' k→Own C (famH K S.HF F) Z k:=by
  rintro k hkl (hk|⟨i,c,hi,hx⟩)
  ·exact .inl hk
  ·rcases old i c hi with⟨rfl,_⟩|⟨hne,h1⟩
   ·rw[z1]at hx;simp[blk]at hx;omega
   ·rw[z2 i hne]at hx;exact .inr ⟨i,c,h1,hx⟩
 refine⟨Z',⟨h.le,h.top,h.eid,h.bid,fun j p hj=>?_,hs.size,hs.defers,hs.frame.trans ((Upto.alloc w o)),hs.m0,fun t=>AV.rep_mono hU hB _ (fun i hi=>z2 i (by have :=h.eid t i hi;omega)) _ (hs.slots t),fun t i hi=>.inl (h.eid t i hi),fun i c hi=>?_,fun i j c d hi hj hij x hx hx2=>?_,fun i c x hi hx=>?_,hs.lm,fun i hi=>by omega⟩,fun i hi=>z2 i (by omega),⟨hU,hB⟩⟩
 ·rcases Nat.lt_or_ge j F.length with hjl|hjl
  ·rw[List.getElem?_append_left hjl]at hj
   obtain⟨g1,g2⟩:=h.fam j p hj
   exact⟨by rw[z2 _ (by omega)];exact g1,g2⟩
  ·rw[List.getElem?_append_right hjl]at hj
   have hj0:j=F.length:=by
    rcases Nat.lt_or_ge (j-F.length) 1 with h|h
    ·omega
    ·rw[List.getElem?_eq_none (by simpa using h)]at hj;cases hj
   subst hj0
   rw[Nat.sub_self]at hj
   injection hj with hj
   subst hj
   exact⟨z1,rfl⟩
 ·rcases old i c hi with⟨rfl,rfl⟩|⟨hne,h1⟩
  ·exact⟨⟨w.heap.size,z1,zdP w o,ho⟩,.inr ⟨by omega,by simp⟩,fun q hq=>by simp[Blk.ids]at hq⟩
  ·obtain⟨g1,g2,g3⟩:=hs.holds i c h1
   refine⟨?_,g2.imp id (fun g=>⟨g.1,by rw[List.length_append];omega⟩),fun q hq=>(g3 q hq).imp id (fun g=>⟨g.1,by rw[List.length_append];omega⟩)⟩
   have hids:∀q∈c.ids,Z' q=Z q:=fun q hq=>z2 q (by
    rcases zaG h1 with⟨_,h2⟩|⟨j,p,rfl,h2,h3⟩
    ·have :=h.bid i c h2 q hq;omega
    ·subst h3;rw[(h.fam j p h2).2]at hq;cases hq)
   exact g1.keep hU hB (z2 i hne) hids fun x hx=>Below.heap_alloc w o x (g1.lt hx)
 ·rcases old i c hi with⟨rfl,rfl⟩|⟨h0,h1⟩<;>rcases old j d hj with⟨rfl,rfl⟩|⟨h2,h3⟩
  ·exact hij rfl
  ·rw[z1]at hx;rw[z2 j h2]at hx2
   simp[blk]at hx
   have :=(hs.holds j d h3).1.lt hx2;omega
  ·rw[z1]at hx2;rw[z2 i h0]at hx
   simp[blk]at hx2
   have :=(hs.holds i c h1).1.lt hx;omega
  ·rw[z2 i h0]at hx;rw[z2 j h2]at hx2
   exact hs.dist i j c d h1 h3 hij x hx hx2
 ·rcases old i c hi with⟨rfl,rfl⟩|⟨h0,h1⟩
  ·rw[z1]at hx
   simp[blk]at hx
   exact .inr (.inl (by have :=hs.frame.size;omega))
  ·rw[z2 i h0]at hx
   exact hs.fresh i c x h1 hx
theorem SimK.reenv (hl:C.ln=⟨0,0⟩) (h:SimK C S F a w Z K) {E:List (Nat×AV)} {d:List Deferred} {a':Act} (hsz:a'.tmps.size=C.N) (hd:a'.defers=d) (hE:∀t,∀i∈(get E t).ids,i<S.nx) (hr:∀t,AV.rep Z (Own C (famH K S.HF F) Z) w (get E t) (a'.tmps.getD t undef)):SimK { C with df:=d} ⟨E,S.H,S.nx⟩ F a' w Z K:=
 ⟨h.le,h.top,hE,h.bid,h.fam,hsz,hd,h.sim.frame,h.sim.m0,hr,fun t i hi=>.inl (hE t i hi),h.sim.holds,h.sim.dist,h.sim.fresh,h.sim.lm,fun i hi=>h.sim.zl i hi⟩
theorem SimK.frameKp (hl:C.ln=⟨0,0⟩) (hfull:∀i,i<S.nx→∃b,S.HF i=some b) (h:SimK C S F a w Z K):
  ∃C1:Cx,C1.P=C.P∧C1.N=C.N∧C1.ln=⟨S.nx,S.nx⟩∧Sim C1 S a w∧∀S' a' w',Sim C1 S' a' w'→∃Z' K',SimK C S' F a' w' Z' K'∧S.nx≤S'.nx∧(∀i,i<S.nx→Z' i=Z i)∧Kp (Own C (famH K S.HF F) Z) (Own C (famH K' S'.HF F) Z') w w':=by
 obtain⟨C1,e1,e2,e3,g1,g2⟩:=h.frame hl hfull
 refine⟨C1,e1,e2,e3,g1,fun S' a' w' hs=>?_⟩
 obtain⟨Z',K',h1,h2,h3,h4,h5⟩:=g2 S' a' w' hs
 exact⟨Z',K',h1,h2,h3,⟨h4,h5⟩⟩
end
theorem SimK.drop {C:Cx} {S:St} {F G:Fam} {a:Act} {w:World} {Z:Nat→Value} {K:Nat} (hl:C.ln=⟨0,0⟩) (h:SimK C S (F++G) a w Z K):SimK C S F a w Z K:=by
 have hs:=h.sim
 have hnl:C.nl=0:=by unfold Cx.nl;rw[hl]
 have old:∀i c,famH K S.HF F i=some c→famH K S.HF (F++G) i=some c:=by
  intro i c hi
  rcases zaG hi with⟨h1,h2⟩|⟨j,p,rfl,h2,h3⟩
  ·rw[zcM h1];exact h2
  ·rw[zge,List.getElem?_append_left (za4 h2),h2,←h3];rfl
 have lo:∀i c,famH K S.HF F i=some c→i<S.nx∨(K≤i∧i<K+F.length):=by
  intro i c hi
  rcases zaG hi with⟨h1,h2⟩|⟨j,p,rfl,h2,h3⟩
  ·exact .inl (h.hf h2).1
  ·exact .inr ⟨by omega,by have :=za4 h2;omega⟩
 have hB:∀k,k<w.heap.size→Own C (famH K S.HF F) Z k→Own C (famH K S.HF (F++G)) Z k:=by
  rintro k _ (hk|⟨i,c,hi,hx⟩)
  ·exact .inl hk
  ·exact .inr ⟨i,c,old i c hi,hx⟩
 refine⟨h.le,h.top,h.eid,h.bid,fun j p hj=>h.fam j p (by rw[List.getElem?_append_left (za4 hj)];exact hj),hs.size,hs.defers,hs.frame,hs.m0,fun t=>AV.rep_mono (Upto.refl _) hB _ (fun _ _=>rfl) _ (hs.slots t),fun t i hi=>.inl (h.eid t i hi),fun i c hi=>⟨((hs.holds i c (old i c hi)).1).anti hB,lo i c hi,fun q hq=>?_⟩,
  fun i j c d hi hj=>hs.dist i j c d (old i c hi) (old j d hj),fun i c x hi=>hs.fresh i c x (old i c hi),hs.lm,fun i hi=>by omega⟩
 rcases zaG hi with⟨h1,h2⟩|⟨j,p,rfl,h2,rfl⟩
 ·exact .inl (h.bid i c h2 q hq)
 ·rw[(h.fam j p (by rw[List.getElem?_append_left (za4 h2)];exact h2)).2]at hq;cases hq
def Iter (P:Program) (gf:Nat) (lb:Array Value) (vs:List Value) (B0:Nat→Prop) (W0:World):Prop:=
 ∀(n l:Nat) (J:Nat→World→Prop) (W:World),1≤n→
  (∀k A A',J k A→Below A.heap.size A A'→J k A')→
  (∀k A,J k A→∃B,Kp B0 B W0 A∧∀x,B x→x<A.heap.size)→
  (∀(k:Nat) (v:Value) A,J k A→vs[k]? =some v→YieldAt Fence.wide (n-1) P l #[v] A fun e A'=>e= .returned (.bool true)∧J (k+1) A')→
  J 0 W→CallsIn Fence.wide n P gf (#[.func (.yield l) #[] #[]]++lb) W fun e W'=>(∃v,e= .returned v)∧J vs.length W'
theorem zop {C:Cx} {S:St} {F:Fam} {a:Act} {w:World} {Z:Nat→Value} {K:Nat} (h:SimK C S F a w Z K):∀x,Own C (famH K S.HF F) Z x→x<w.heap.size:=by
 rintro x (hx|⟨i,c,hi,hx⟩)
 ·exact Nat.lt_of_lt_of_le (h.sim.m0 x hx) h.sim.frame.size
 ·exact(h.sim.holds i c hi).1.lt hx
theorem full_of {S:St} (h:zlx S=true):∀i,i<S.nx→∃b,S.HF i=some b:=fun i hi=>Option.isSome_iff_exists.1 (List.all_eq_true.1 h i (List.mem_range.2 hi))
theorem zl5 {C:Cx} {P:Program} {n nx:Nat} (nf:Nat) {E:List (Nat×AV)} {H:Nat→List (Nat×Option Blk)} {F:Fam} {a:Act} {w:World} {Z:Nat→Value} {K:Nat} {Q:Exit→Act→World→Prop} {g:Operand} {p:Tmp} {assign body:Code} {gf:Nat} {lb:Array Value} {vs:List Value} {avs:List AV}
  (hP:C.P=P) (hl:C.ln=⟨0,0⟩) (hd:C.df=[]) (h:SimK C ⟨E,H 0,nx⟩ F a w Z K) (hp:p<C.N) (hn:2≤n) (hnf:nf≤nx) (hE:∀t,∀i∈(get E t).ids,i<nf)
  (hg:a.eval g= .func (.func gf) #[] lb) (eg:∀args w,(callFunc gf args).run P w= .ok (.enter gf args) w)
  (hit:Iter P gf lb vs (Own C (famH K (St.HF ⟨E,H 0,nx⟩) F) Z) w)
  (hav:∀(k:Nat) (v:Value),vs[k]? =some v→∃c,avs[k]? =some c∧c.ids=[]∧AV.rep Z (Own C (famH K (St.HF ⟨E,H 0,nx⟩) F) Z) w c v)
  (hf0:∀k:Nat,k≤vs.length→zlx ⟨E,H k,nx⟩=true)
  (hround:∀(k:Nat) (c:AV),k<vs.length→avs[k]? =some c→∀F m,FOk P F m→zeG F m P ⟨nx,nx⟩ C.N assign (fun e S1=>e= .normal∧zlx S1=true∧
   ∀F m,FOk P F m→zeG F m P ⟨S1.nx,S1.nx⟩ C.N body (fun e S2=>e= .normal∧∃lr,zfm ⟨0,0⟩ ⟨[],H (k+1),nx⟩ (rho lr) []=true∧hLe S2 (rho lr) [] (H (k+1))∧∀i,i<nf→rho lr i=i) S1) ⟨(p,c)::E,H k,nx⟩)
  (hdone:∀D Z' K' W',SimK { C with df:=[{ target:=.collected D,args:= #[]}]} ⟨E,H vs.length,nx⟩ (F++[(.pointer (some ⟨D,0,none⟩),.obj (.deferred (some [])))]) { a with defers:=[{ target:=.collected D,args:= #[]}]} W' Z' K'→Q .normal { a with defers:=[{ target:=.collected D,args:= #[]}]} W'):
  (Code.rangeFunc g #[p] assign body).wpIn Fence.wide n P Q a w:=by
 have hda:a.defers=[]:=h.sim.defers.trans hd
 have eC:{ C with df:=[]}=C:=by
  cases C;simp only at hd;subst hd;rfl
 refine wpIn_rangeFunc fun fn hfn=>?_
 let R:LoopState→Loop:=fun st=>{ state:=st,pending:=none,fn,tmps:=a.tmps,params:= #[p],assign,body,defers:=w.heap.size}
 let V:=(w.alloc (.deferred (some []))).alloc (.loop (R .ready))
 have sizeA:(w.alloc (.deferred (some []))).heap.size=w.heap.size+1:=by simp
 let d1:Value×Blk:=(.pointer (some ⟨w.heap.size,0,none⟩),.obj (.deferred (some [])))
 let r1:LoopState→Value×Blk:=fun st=>(.pointer (some ⟨w.heap.size+1,0,none⟩),.obj (.loop (R st)))
 obtain⟨Z1,h1,z1,k1⟩:=h.newobj hl (o:=.deferred (some [])) (fun _ _ _=>Obj.noConfusion)
 obtain⟨Z2,h2,z2,k2⟩:=h1.newobj hl (o:=.loop (R .ready)) (fun _ _ _=>Obj.noConfusion)
 rw[sizeA]at h2 k2
 let B0:=Own C (famH K (St.HF ⟨E,H 0,nx⟩) F) Z
 let J:Nat→World→Prop:=fun k W=>∃Z' K',SimK C ⟨E,H k,nx⟩ ((F++[d1])++(r1 .ready::[])) a W Z' K'∧(∀i,i<nf→Z' i=Z i)∧Kp B0 (Own C (famH K' (St.HF ⟨E,H k,nx⟩) ((F++[d1])++(r1 .ready::[]))) Z') w W
 have j0:J 0 V:=⟨Z2,K,h2,fun i hi=>(z2 i (Nat.lt_of_lt_of_le hi hnf)).trans (z1 i (Nat.lt_of_lt_of_le hi hnf)),k1.trans k2⟩
 refine⟨w.heap.size+1,[{ target:=.collected w.heap.size,args:= #[]}],V,{ target:=.fn (.func gf) lb,args:= #[.func (.yield (w.heap.size+1)) #[] #[]]},V,gf, #[.func (.yield (w.heap.size+1)) #[] #[]]++lb,V,run_enterLoop_outer _ _ _ _ _,?_,fun _ _=>trivial,?_,(fun h=>nomatch h),?_⟩
 ·simp only[resolve,hg];simp[go_sem]
 ·simp[invoke,go_sem,eg]
 refine(hit (n-1) (w.heap.size+1) J V (by omega) ?_ ?_ ?_ j0).mono ?_
 ·rintro k A A' ⟨Z',K',g1,g2,g3⟩ hb
  exact⟨Z',K',g1.world hb,g2,g3.trans (Kp.below hb)⟩
 ·rintro k A ⟨Z',K',g1,g2,g3⟩
  exact⟨_,g3,zop g1⟩
 ·-- a round
  rintro k v A ⟨Z',K',g1,g2,g3⟩ hv
  have hk:k<vs.length:=za4 hv
  obtain⟨c,hc,hci,hcr⟩:=hav k v hv
  have hcr':AV.rep Z' (Own C (famH K' (St.HF ⟨E,H k,nx⟩) ((F++[d1])++(r1 .ready::[]))) Z') A c v:=g3.rep (fun i hi=>by rw[hci]at hi;cases hi) hcr
  have hrec:A.heap[w.heap.size+1]? =some (.loop (R .ready)):=(g1.reobj hl (o':=.loop (R .busy)) (fun _ _ _=>Obj.noConfusion)).1
  refine⟨fn,_,assign,body,run_yield (P:=P) (args:= #[v]) hrec rfl,roundIn_of_wpIn hfn ?_⟩
  have e1:(((R .ready).params.zip #[v]).foldl (fun tmps (t,a)=>tmps.setIfInBounds t a) (R .ready).tmps)=a.tmps.setIfInBounds p v:=by simp[R]
  rw[e1]
  have s1:SimK C ⟨(p,c)::E,H k,nx⟩ ((F++[d1])++(r1 .ready::[])) { tmps:=a.tmps.setIfInBounds p v,defers:=[]} A Z' K':=by
   have :=g1.reenv hl (E:=(p,c)::E) (d:=[]) (a':={ tmps:=a.tmps.setIfInBounds p v,defers:=[]}) (by simpa using g1.sim.size) rfl (fun t i hi=>?_) (fun t=>?_)
   ·rw[eC]at this;exact this
   ·rw[get]at hi
    cases hb:Nat.beq p t with
    |true=>rw[hb,cond_true,hci]at hi;cases hi
    |false=>rw[hb,cond_false]at hi;exact g1.eid t i hi
   ·rw[get]
    cases hb:Nat.beq p t with
    |true=>
     have :=Nat.eq_of_beq_eq_true hb;subst this
     rw[cond_true]
     have :(a.tmps.setIfInBounds p v).getD p undef=v:=by
      rw[Array.getD_eq_getD_getElem?,Array.getElem?_setIfInBounds_self_of_lt (by rw[g1.sim.size];exact hp)];rfl
     rw[this];exact hcr'
    |false=>
     rw[cond_false]
     have hne:p≠t:=fun e=>by subst e;simp at hb
     have :(a.tmps.setIfInBounds p v).getD t undef=a.tmps.getD t undef:=by
      rw[Array.getD_eq_getD_getElem?,Array.getD_eq_getD_getElem?,Array.getElem?_setIfInBounds_ne hne]
     rw[this];exact g1.sim.slots t
  obtain⟨C1,p1,p2,p3,q1,q2⟩:=s1.frameKp hl (full_of (S:=⟨(p,c)::E,H k,nx⟩) (hf0 k (by omega)))
  refine wpIn_mono (hround k c hk hc _ _ (zg0 P (w.heap.size+1) (n-1-1)) C1 (p1.trans hP) p3 p2 _ _ q1) ?_
  rintro e a2 W2 ⟨S1,⟨rfl,f1,hbody⟩,hS1⟩
  obtain⟨Z3,K3,s3,n3,z3,k3⟩:=q2 S1 a2 W2 hS1
  obtain⟨hrec3,s4,k4⟩:=s3.reobj hl (o':=.loop (R .busy)) (fun _ _ _=>Obj.noConfusion)
  refine⟨_,run_beginRound (r:=R .ready) hrec3 rfl,?_⟩
  obtain⟨C2,p4,p5,p6,q3,q4⟩:=s4.frameKp hl (full_of f1)
  refine wpIn_mono (hbody _ _ (zg0 P (w.heap.size+1) (n-1-1)) C2 (p4.trans hP) p6 p5 _ _ q3) ?_
  rintro e a3 W3 ⟨S2,⟨rfl,lr,hnum,hle,hlr⟩,hS2⟩
  obtain⟨Z4,K4,s5,n5,z5,k5⟩:=q4 S2 a3 W3 hS2
  obtain⟨hrec5,s6,k6⟩:=s5.reobj hl (o':=.loop (R .ready)) (fun _ _ _=>Obj.noConfusion)
  refine⟨_,_,run_endRound (r:=R .busy) none hrec5,rfl,?_⟩
  have hnx:nx≤S1.nx:=n3
  obtain⟨Z5,s7,z7,b7⟩:=s6.weaken hl ⟨[],H (k+1),nx⟩ lr [] (by rw[hl];exact hnum) trivial hle
  have zz:∀i,i<nf→Z5 i=Z i:=fun i hi=>by rw[z7 i (Nat.lt_of_lt_of_le hi hnf),hlr i hi,z5 i (by omega),z3 i (Nat.lt_of_lt_of_le hi hnf),g2 i hi]
  have kk:=((((g3.trans k3).trans k4).trans k5).trans k6).trans (⟨Upto.refl _,b7⟩:Kp _ _ _ _)
  refine⟨Z5,nx,?_,zz,kk⟩
  have :=s7.reenv hl (E:=E) (d:=[]) (a':=a) g1.sim.size hda (fun t i hi=>g1.eid t i hi) (fun t=>kk.rep (fun i hi=>zz i (hE t i hi)) (h.sim.slots t))
  rw[eC]at this
  exact this
 ·rintro e W2 ⟨⟨v,rfl⟩,Z',K',g1,g2,g3⟩
  obtain⟨hrec,s2,k2⟩:=g1.reobj hl (o':=.loop (R .exhausted)) (fun _ _ _=>Obj.noConfusion)
  refine⟨none,_,run_endLoop (P:=P) (r:=R .ready) hrec (fun h=>by cases h),?_⟩
  rw[hda,List.append_nil]
  refine hdone w.heap.size Z' K' _ ?_
  exact(s2.drop hl).reenv hl (E:=E) (d:=[{ target:=.collected w.heap.size,args:= #[]}]) (a':={ a with defers:=[{ target:=.collected w.heap.size,args:= #[]}]}) g1.sim.size rfl (fun t i hi=>g1.eid t i hi) (fun t=>(s2.drop hl).sim.slots t)
theorem zl7 {Z:Nat→Value} {B:Nat→Prop} {w:World} {a:Act} {E:List (Nat×AV)} (h:∀p∈E,AV.rep Z B w p.2 (a.tmps.getD p.1 undef)) (t:Nat):AV.rep Z B w (get E t) (a.tmps.getD t undef):=by
 rcases get_mem (l:=E) (t:=t)with e|e
 ·rw[e,AV.rep];trivial
 ·exact h _ e
theorem zm3 {E:List (Nat×AV)} (h:∀p∈E,p.2.ids=[]) (t:Nat):(get E t).ids=[]:=by
 rcases get_mem (l:=E) (t:=t)with e|e
 ·rw[e];rfl
 ·exact h _ e
theorem zmK {P:Program} {N:Nat} {B:Nat→Prop} {Z:Nat→Value} {w:World} {a:Act} {E:List (Nat×AV)} (hB:∀x,B x→x<w.heap.size) (hs:a.tmps.size=N) (hd:a.defers=[]) (hE:∀p∈E,p.2.ids=[]) (hr:∀p∈E,AV.rep Z B w p.2 (a.tmps.getD p.1 undef)):Sim ⟨P,w,B,Z,⟨0,0⟩,N,[]⟩ ⟨E,[],0⟩ a w:=
 ⟨Z,hs,hd,Upto.refl _,hB,fun t=>AV.rep_mono (Upto.refl _) (fun k _ hk=>by
  rcases hk with hk|⟨i,b,hi,_⟩
  ·exact hk
  ·cases hi) _ (fun _ _=>rfl) _ (zl7 hr t),fun t i hi=>by
   have hi':i∈(get E t).ids:=hi
   exact absurd hi' (by rw[zm3 hE t];exact List.not_mem_nil),fun i b hi=>(nomatch hi),fun i j b c hi=>(nomatch hi),fun i b x hi=>(nomatch hi),Nat.le_refl _,fun i hi=>absurd hi (Nat.not_lt_zero _)⟩
theorem zfz {P:Program} {N:Nat} {B:Nat→Prop} {Z:Nat→Value} {w w':World} {a:Act} {S:St} (h:Sim ⟨P,w,B,Z,⟨0,0⟩,N,[]⟩ S a w'):Below w.heap.size w w':=by
 obtain⟨Z,h⟩:=h
 exact⟨h.frame.os,h.frame.tape,h.frame.output,h.frame.size,fun k hk=>h.frame.block k hk fun⟨i,hi,_⟩=>absurd hi (Nat.not_lt_zero _)⟩
theorem zhl {C:Cx} {S:St} {a:Act} {w:World} {t:Nat} {v:Value} (h:Sim C S a w) (e:get S.env t= .r (.v v)):a.tmps.getD t undef=v:=by
 obtain⟨Z,h⟩:=h
 have :=h.slots t
 unfold St.envF at this
 rw[e,AV.rep,RV.rep]at this
 exact this
theorem zmH {a:Act} {d:Option Tmp} {v:Value} {t:Nat} (h:d≠some t):(a.put d v).tmps.getD t undef=a.tmps.getD t undef:=by
 cases d with
 |none=>rfl
 |some k=>
  show(a.tmps.setIfInBounds k v).getD t undef=_
  have hne:k≠t:=fun e=>h (by rw[e])
  rw[Array.getD_eq_getD_getElem?,Array.getD_eq_getD_getElem?,Array.getElem?_setIfInBounds_ne hne]
theorem put_eq {a:Act} {v:Value} {t:Nat} (h:t<a.tmps.size):(a.put (some t) v).tmps.getD t undef=v:=by
 show(a.tmps.setIfInBounds t v).getD t undef=_
 rw[Array.getD_eq_getD_getElem?,Array.getElem?_setIfInBounds_self_of_lt h];rfl
section
variable {F:Fence} {n:Nat} {P:Program}
theorem SimF.operIn2 {N:Nat} {ops:Array Oper} {o:Oper} {C:Cx} {D:Nat→Prop} {env:Nat→AV} {H:Nat→Option Blk} {Z:Nat→Value} {a:Act} {w:World} {k:Nat} {sp:Sp} {next :Act→World→Prop} {Q:Exit→Act→World→Prop} (hF:FOk P F n)
  (S:SimF C D env H Z a w) (hP:C.P=P) (hN:C.N=N) (hdst:∀x,o.dst=some x→x<N) (hw:za3 ops env o sp.run) (hok:sp.run=true→OpOk P o env k sp) (hskip:sp.run=false→sp=zaV) (hsp:SpOk C.ln D H k sp)
  (hn:∀Z' v w',SimF C (fun i=>D i∨(k≤i∧i<k+sp.frs.length)) (updE o.dst sp.out env) (updH k sp H) Z' (a.put o.dst v) w'→next (a.put o.dst v) w'):
  if Region.wanted o (yielded ops a.tmps)then o.wpIn F n P a w next Q else(∀f,o.about P w a.eval=some f→F.fn f)∧next (a.put o.dst undef) w:=by
 rw[zfF S hw]
 cases hr:sp.run with
 |true=>
  rw[if_pos rfl]
  refine(hok hr a w Z (Own C H Z) S.m_lt (fun x _=>S.ev x) (fun i b hb=>⟨(S.holds i b (hsp.rd i b hb)).1,fun x hx=>.inr ⟨i,b,hsp.rd i b hb,hx⟩⟩) (fun i j b c hb hc hij x hx=>S.dist i j b c (hsp.rd i b hb) (hsp.rd j c hc) hij x hx)).wpIn hF fun v w' hA=>?_
  obtain⟨Z',S'⟩:=S.step hsp (d:=o.dst) (fun x hx=>hN▸hdst x hx) hA
  exact hn _ _ _ S'
 |false=>
  rw[if_neg (by simp)]
  have e:=hskip hr
  obtain⟨Z',S'⟩:=S.step hsp (d:=o.dst) (v:=undef) (w':=w) (fun x hx=>hN▸hdst x hx) ⟨Z,by
   subst e
   exact⟨fun _ _=>rfl,by simp only[zaV,AV.rep,RV.rep],fun i b h=>by simp[zaV]at h,fun j b h=>by simp[zaV]at h,fun j j' x h=>by simp[zaV]at h,fun j x h=>by simp[zaV]at h,Upto.refl _⟩⟩
  exact⟨fun f _=>hF.fn f,hn _ _ _ S'⟩
theorem zeN {ops:Array Oper} {chk:List (Nat×Sp)→Bool} {Q0:St→Prop} {Q':Exit→Act→World→Prop} {C:Cx} (hF:FOk P F n) (hP:C.P=P) {rest:List Oper}:
  ∀(l:List Oper) (S:St) (tr:List (Nat×Sp)) (a:Act) (w:World),Sim C S a w→wpA P C.ln C.N ops chk Q0 l S tr→
   (∀S' a' w',Q0 S'→Sim C S' a' w'→(∀t,(∀o∈l,o.dst≠some t)→a'.tmps.getD t undef=a.tmps.getD t undef)→wpListIn F n P ops Q' rest a' w')→wpListIn F n P ops Q' (l++rest) a w
 |[],S,tr,a,w,hs,h,hQ=>hQ S a w h.2 hs fun _ _=>rfl
 |o::l,S,tr,a,w,⟨Z,hs⟩,⟨sp,h1,h2⟩,hQ=>by
  rw[List.cons_append]
  unfold wpListIn
  have hsp:=h1.sp (fun i=>i<S.nx) hs.ids (fun i b hb=>⟨(hs.holds i b hb).2.1,(hs.holds i b hb).2.2⟩) (fun i hi=>.inl hi)
  refine hs.operIn2 hF (k:=S.nx) (sp:=sp) hP rfl h1.dst h1.want h1.ok h1.skip hsp fun Z' v w' hs'=>?_
  refine zeN hF hP l (S.app o.dst sp) _ _ w' ⟨Z',?_⟩ h2 fun S' a' w'' q1 q2 q3=>hQ S' a' w'' q1 q2 fun t ht=>(q3 t fun o ho=>ht o (List.mem_cons_of_mem _ ho)).trans (zmH (ht o (List.mem_cons_self ..)))
  rw[zf7,zlh]
  exact hs'.monoD fun i hi=>by
   show i<S.nx+sp.frs.length
   have :∀i,i<S.nx∨(S.nx≤i∧i<S.nx+sp.frs.length)→i<S.nx+sp.frs.length:=by intro i h;omega
   exact this i hi
theorem zds {C:Cx} {S:St} {a:Act} {w:World} {id:Nat} {l:List Oper} {Q:Exit→Act→World→Prop} (Q0:St→Prop) (hF:FOk P F n) (hP:C.P=P) (hs:Sim C S a w) (h:wpA P C.ln C.N l.toArray (fun _=>true) Q0 l S [])
  (k:∀S' a' w',Q0 S'→Sim C S' a' w'→(∀t,(∀o∈l,o.dst≠some t)→a'.tmps.getD t undef=a.tmps.getD t undef)→Q .normal a' w'):(Code.region id l.toArray false).wpIn F n P Q a w:=by
 refine wpIn_region_lit ?_
 have :=zeN (rest:=[]) (Q':=Q) hF hP l S [] a w hs h k
 rwa [List.append_nil]at this
theorem zlC {C:Cx} {S:St} {a:Act} {w:World} {ops:Array Oper} {l:List Oper} {Q:Exit→Act→World→Prop} (Q0:St→Prop) (hF:FOk P F n) (hP:C.P=P) (hs:Sim C S a w) (h:wpA P C.ln C.N ops (fun _=>true) Q0 l S [])
  (k:∀S' a' w',Q0 S'→Sim C S' a' w'→(∀t,(∀o∈l,o.dst≠some t)→a'.tmps.getD t undef=a.tmps.getD t undef)→Q .normal a' w'):wpListIn F n P ops Q l a w:=by
 have :=zeN (rest:=[]) (Q':=Q) hF hP l S [] a w hs h k
 rwa [List.append_nil]at this
theorem zgC {C:Cx} {S:St} {a:Act} {w:World} (h:Sim C S a w):a.tmps.size=C.N∧a.defers=C.df:=by
 obtain⟨Z,h⟩:=h
 exact⟨h.size,h.defers⟩
theorem zlN {ops:Array Oper} {rest:List Oper} {Q':Exit→Act→World→Prop} {a:Act} {w:World} {o:Oper} {f x:Operand} {l:Nat} {T:TypeId} {v:Value} {R:Ending→World→Prop} (hg:o.guard=none) (hop:o.op=Op.call { callee:=.value f,args:= #[x],argTypes:= #[T]})
  (hf:a.eval f= .func (.yield l) #[] #[]) (hx:a.eval x=v) (hdep:F.depth.isSome=true→1≤n) (hfn:∀f,F.fn f) (hY:YieldAt F (n-1) P l #[v] w R)
  (k:∀e w',R e w'→∃u,e= .returned u∧wpListIn F n P ops Q' rest (a.put o.dst u) w'):wpListIn F n P ops Q' (o::rest) a w:=by
 refine wpListIn_plain hg fun K hK'=>?_
 obtain⟨fn,tmps,assign,body,hrun,hround⟩:=hY
 unfold Oper.wpIn
 refine⟨fun f _=>hfn f,?_⟩
 rw[Oper.semAt_plain F _ _ (by rw[hop];intro c hc';cases hc')]
 have e:(execOp a.eval o).run P w= .ok (.round l fn tmps assign body) w:=by
  simp[execOp,hop,resolve,invoke,Deferred.ofValue,hf,hx,hrun,Result.andThen]
 rw[e,Oper.uponIn_round]
 refine⟨hdep,hround.mono fun e w' hr=>?_⟩
 obtain⟨u,rfl,hk⟩:=k e w' hr
 exact hK' _ _ hk
end
end Go.Ab
