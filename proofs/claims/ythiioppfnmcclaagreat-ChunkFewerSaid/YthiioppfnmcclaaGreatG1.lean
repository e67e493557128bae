/- Texts of the second layer in one: Ab1 Ab2 Ab3 Ab4 Ab5. -/
import Derived.Calls
import Derived.Tactics
import Derived.Below
import Derived.Laws.Rows
import Derived.Laws.OwnMore
import Derived.Laws.AppendOwn
import Derived.KernelRfl
import Derived.Test.YthiioppfnmcclaaGreatAu
import Derived.Orders
import Derived.Deep.WholeRow
set_option linter.unusedVariables false
namespace Go.Ab
open Go.RowKit
inductive RV where
 |v (x:Value)
 |sl (sz:Nat) (es:List (List RV))
structure Upto (M:Nat→Prop) (w w':World):Prop where
 os:w'.os=w.os
 tape:w'.tape=w.tape
 output:w'.output=w.output
 size:w.heap.size≤w'.heap.size
 block:∀k,k<w.heap.size→¬M k→w'.heap[k]? =w.heap[k]?
section
variable {M M':Nat→Prop} {a w w':World}
theorem Upto.refl (w:World):Upto M w w:=⟨rfl,rfl,rfl,Nat.le_refl _,fun _ _ _=>rfl⟩
theorem Upto.trans (h:Upto M a w) (k:Upto M w w'):Upto M a w':=
 ⟨k.os.trans h.os,k.tape.trans h.tape,k.output.trans h.output,Nat.le_trans h.size k.size,fun i h1 h2=>(k.block i (Nat.lt_of_lt_of_le h1 h.size) h2).trans (h.block i h1 h2)⟩
theorem Upto.mono (h:Upto M w w') (hM:∀k,k<w.heap.size→M k→M' k):Upto M' w w':=⟨h.os,h.tape,h.output,h.size,fun k hk hn=>h.block k hk fun hm=>hn (hM k hk hm)⟩
theorem Upto.cell (h:Upto M w w') {p:Addr} {u:Value} (hc:w.cell? p=some u) (hM:¬M p.block):w'.cell? p=some u:=
 (World.cell?_of_block (h.block _ (block_lt_of_cell hc) hM)).trans hc
theorem Upto.of_below (hb:Below w.heap.size w w'):Upto M w w':=⟨hb.os,hb.tape,hb.output,hb.size,fun k hk _=>hb.block k hk⟩
theorem Upto.to_below (h:Upto (fun _=>False) w w'):Below w.heap.size w w':=⟨h.os,h.tape,h.output,h.size,fun k hk=>h.block k hk (fun f=>f)⟩
theorem Upto.alloc (w:World) (o:Obj):Upto M w (w.alloc o):=Upto.of_below ((Below.refl _ _).alloc (Nat.le_refl _) o)
end
mutual
def RV.rep (B:Nat→Prop) (w:World):RV→Value→Prop
 |.v x,u=>u=x
 |.sl sz es,u=>∃A c,u= .slice A es.length c∧es.length≤c∧c≤maxLen∧(∀e∈es,e.length=sz)∧(es≠[]→∃ad,A=some ad∧ad.block<w.heap.size∧¬B ad.block∧RV.rows B w es ad 0)
def RV.row (B:Nat→Prop) (w:World):List RV→Addr→Nat→Prop
 |[],_,_=>True
 |c::cs,ad,j=>(∃u,w.cell? (ad.add j)=some u∧u.oneCell'=true∧RV.rep B w c u)∧RV.row B w cs ad (j+1)
def RV.rows (B:Nat→Prop) (w:World):List (List RV)→Addr→Nat→Prop
 |[],_,_=>True
 |e::es,ad,j=>RV.row B w e ad j∧RV.rows B w es ad (j+e.length)
end
theorem add_add (a:Addr) (i j:Nat):(a.add i).add j=a.add (i+j):=by
 unfold Addr.add
 by_cases hi:i=0<;>by_cases hj:j=0<;>simp[hi,hj,Nat.add_assoc]
theorem add_block (a:Addr) (n:Nat):(a.add n).block=a.block:=by unfold Addr.add;split <;>rfl
inductive RVs (B:Nat→Prop) (w:World):List RV→List Value→Prop
 |nil:RVs B w [] []
 |cons {c u cs us}:u.oneCell'=true→RV.rep B w c u→RVs B w cs us→RVs B w (c::cs) (u::us)
section
variable {B B':Nat→Prop} {w w':World}
theorem RV.row_iff (ad:Addr):∀(cs:List RV) (j:Nat),RV.row B w cs ad j↔∀k c,cs[k]? =some c→∃u,w.cell? (ad.add (j+k))=some u∧u.oneCell'=true∧RV.rep B w c u
 |[],j=>by simp[RV.row]
 |c::cs,j=>by
  rw[RV.row,RV.row_iff ad cs (j+1)]
  constructor
  ·rintro⟨h0,h⟩ k x hk
   cases k with
   |zero=>simp at hk;subst hk;simpa using h0
   |succ k=>
    have :=h k x (by simpa using hk)
    rwa [show j+1+k=j+(k+1) by omega]at this
  ·intro h
   refine⟨by simpa using h 0 c (by simp),fun k x hk=>?_⟩
   have :=h (k+1) x (by simpa using hk)
   rwa [show j+(k+1)=j+1+k by omega]at this
theorem RV.rows_flat (ad:Addr):∀(es:List (List RV)) (j:Nat),RV.rows B w es ad j↔RV.row B w es.flatten ad j
 |[],j=>by simp[RV.rows,RV.row]
 |e::es,j=>by
  rw[RV.rows,RV.rows_flat ad es,List.flatten_cons]
  simp only[RV.row_iff]
  constructor
  ·rintro⟨h1,h2⟩ k c hk
   by_cases hl:k<e.length
   ·exact h1 k c (by rwa [List.getElem?_append_left hl]at hk)
   ·rw[List.getElem?_append_right (by omega)]at hk
    have :=h2 (k-e.length) c hk
    rwa [show j+e.length+(k-e.length)=j+k by omega]at this
  ·intro h
   refine⟨fun k c hk=>?_,fun k c hk=>?_⟩
   ·have hl:k<e.length:=by
     rcases Nat.lt_or_ge k e.length with h'|h'
     ·exact h'
     ·rw[List.getElem?_eq_none h']at hk;cases hk
    exact h k c (by rwa [List.getElem?_append_left hl])
   ·have :=h (e.length+k) c (by rw[List.getElem?_append_right (by omega)];simpa using hk)
    rwa [show j+(e.length+k)=j+e.length+k by omega]at this
theorem RV.row_add (ad:Addr) (cs:List RV) (i j:Nat):RV.row B w cs (ad.add i) j↔RV.row B w cs ad (i+j):=by
 simp only[RV.row_iff,add_add,Nat.add_assoc]
theorem RV.row_drop {ad:Addr} {cs:List RV} {j:Nat} (h:RV.row B w cs ad j) (k:Nat):RV.row B w (cs.drop k) ad (j+k):=by
 rw[RV.row_iff]at h ⊢
 intro i c hi
 have :=h (k+i) c (by simpa using hi)
 rwa [show j+(k+i)=j+k+i by omega]at this
theorem RV.row_take {ad:Addr} {cs:List RV} {j:Nat} (h:RV.row B w cs ad j) (k:Nat):RV.row B w (cs.take k) ad j:=by
 rw[RV.row_iff]at h ⊢
 intro i c hi
 rw[List.getElem?_take]at hi
 split at hi
 ·exact h i c hi
 ·cases hi
theorem zaR {α:Type} (sz:Nat):∀(es:List (List α)) (_:∀e∈es,e.length=sz) (k:Nat),(es.drop k).flatten=es.flatten.drop (k*sz)∧(es.take k).flatten=es.flatten.take (k*sz)
 |[],_,k=>by simp
 |e::es,h,0=>by simp
 |e::es,h,k+1=>by
  have he:=h e (by simp)
  have ih:=zaR sz es (fun x hx=>h x (by simp[hx])) k
  simp only[List.drop_succ_cons,List.flatten_cons,List.take_succ_cons,ih.1,ih.2]
  rw[show(k+1)*sz=e.length+k*sz by rw[he,Nat.add_mul];omega]
  constructor
  ·rw[List.drop_append]
   simp
  ·rw[List.take_append,List.take_of_length_le (l:=e) (by omega)]
   simp
theorem zbW {α:Type} (sz:Nat):∀(es:List (List α)) (_:∀e∈es,e.length=sz),es.flatten.length=es.length*sz
 |[],_=>by simp
 |e::es,h=>by
  rw[List.flatten_cons,List.length_append,h e (by simp),zbW sz es (fun x hx=>h x (by simp[hx])),List.length_cons,Nat.add_mul]
  omega
theorem RV.rows_get {ad:Addr} {es:List (List RV)} {sz j:Nat} (h:RV.rows B w es ad j) (hs:∀e∈es,e.length=sz) {i:Nat} {e:List RV} (hi:es[i]? =some e):RV.row B w e (ad.add (i*sz)) j:=by
 rw[RV.rows_flat]at h
 have h1:=RV.row_take (RV.row_drop h (i*sz)) sz
 rw[RV.row_add]
 rw[←(zaR sz es hs i).1]at h1
 have hl:i<es.length:=by
  rcases Nat.lt_or_ge i es.length with h'|h'
  ·exact h'
  ·rw[List.getElem?_eq_none h']at hi;cases hi
 rw[List.drop_eq_getElem_cons hl,List.flatten_cons]at h1
 rw[List.getElem?_eq_getElem hl]at hi
 injection hi with hi
 have he:=hs e (by rw[←hi];exact List.getElem_mem hl)
 rw[hi,show sz=e.length from he.symm,List.take_left,he]at h1
 rwa [Nat.add_comm]
mutual
theorem RV.rep_mono (hU:Upto B w w') (hB:∀k,k<w.heap.size→B' k→B k):∀(c:RV) (u:Value),RV.rep B w c u→RV.rep B' w' c u
 |.v x,u,h=>by rw[RV.rep]at h ⊢;exact h
 |.sl sz es,u,h=>by
  rw[RV.rep]at h ⊢
  obtain⟨A,c,h1,h2,h3,h4,h5⟩:=h
  refine⟨A,c,h1,h2,h3,h4,fun hne=>?_⟩
  obtain⟨ad,e,hlt,hb,hr⟩:=h5 hne
  exact⟨ad,e,Nat.lt_of_lt_of_le hlt hU.size,fun hb'=>hb (hB _ hlt hb'),RV.rows_mono hU hB es ad 0 hb hlt hr⟩
theorem RV.row_mono (hU:Upto B w w') (hB:∀k,k<w.heap.size→B' k→B k):∀(cs:List RV) (ad:Addr) (j:Nat),¬B ad.block→ad.block<w.heap.size→RV.row B w cs ad j→RV.row B' w' cs ad j
 |[],_,_,_,_,_=>by rw[RV.row];trivial
 |c::cs,ad,j,hb,hlt,h=>by
  rw[RV.row]at h ⊢
  obtain⟨⟨u,h1,h2,h3⟩,h4⟩:=h
  exact⟨⟨u,hU.cell h1 (by rwa [add_block]),h2,RV.rep_mono hU hB c u h3⟩,RV.row_mono hU hB cs ad (j+1) hb hlt h4⟩
theorem RV.rows_mono (hU:Upto B w w') (hB:∀k,k<w.heap.size→B' k→B k):∀(es:List (List RV)) (ad:Addr) (j:Nat),¬B ad.block→ad.block<w.heap.size→RV.rows B w es ad j→RV.rows B' w' es ad j
 |[],_,_,_,_,_=>by rw[RV.rows];trivial
 |e::es,ad,j,hb,hlt,h=>by
  rw[RV.rows]at h ⊢
  exact⟨RV.row_mono hU hB e ad j hb hlt h.1,RV.rows_mono hU hB es ad (j+e.length) hb hlt h.2⟩
end
theorem RVs.mono (hU:Upto B w w') (hB:∀k,k<w.heap.size→B' k→B k) {cs:List RV} {us:List Value} (h:RVs B w cs us):RVs B' w' cs us:=by
 induction h with
 |nil=>exact .nil
 |cons h1 h2 _ ih=>exact .cons h1 (RV.rep_mono hU hB _ _ h2) ih
theorem RVs.len {cs:List RV} {us:List Value} (h:RVs B w cs us):cs.length=us.length:=by
 induction h with
 |nil=>rfl
 |cons _ _ _ ih=>simp[ih]
theorem RVs.one {cs:List RV} {us:List Value} (h:RVs B w cs us):∀u∈us,u.oneCell'=true:=by
 induction h with
 |nil=>simp
 |cons h1 _ _ ih=>simpa using⟨h1,ih⟩
theorem RVs.append {cs ds:List RV} {us vs:List Value} (h:RVs B w cs us) (k:RVs B w ds vs):RVs B w (cs++ds) (us++vs):=by
 induction h with
 |nil=>exact k
 |cons h1 h2 _ ih=>exact .cons h1 h2 ih
theorem RVs.take {cs:List RV} {us:List Value} (h:RVs B w cs us):∀k,RVs B w (cs.take k) (us.take k):=by
 induction h with
 |nil=>intro k;simpa using RVs.nil
 |cons h1 h2 _ ih=>
  intro k
  cases k with
  |zero=>exact .nil
  |succ k=>exact .cons h1 h2 (ih k)
theorem RVs.get {cs:List RV} {us:List Value} (h:RVs B w cs us):∀{k:Nat} {c:RV},cs[k]? =some c→∃u,us[k]? =some u∧u.oneCell'=true∧RV.rep B w c u:=by
 induction h with
 |nil=>intro k c hk;simp at hk
 |cons h1 h2 _ ih=>
  intro k c hk
  cases k with
  |zero=>simp at hk;subst hk;exact⟨_,rfl,h1,h2⟩
  |succ k=>simpa using ih (by simpa using hk)
theorem RV.row_vals (ad:Addr):∀(cs:List RV) (j:Nat),RV.row B w cs ad j↔∃us,RVs B w cs us∧∀k u,us[k]? =some u→w.cell? (ad.add (j+k))=some u
 |[],j=>by
  rw[RV.row]
  exact⟨fun _=>⟨[],.nil,by simp⟩,fun _=>trivial⟩
 |c::cs,j=>by
  rw[RV.row,RV.row_vals ad cs (j+1)]
  constructor
  ·rintro⟨⟨u,h1,h2,h3⟩,us,h4,h5⟩
   refine⟨u::us,.cons h2 h3 h4,fun k x hk=>?_⟩
   cases k with
   |zero=>simp at hk;subst hk;simpa using h1
   |succ k=>
    have :=h5 k x (by simpa using hk)
    rwa [show j+1+k=j+(k+1) by omega]at this
  ·rintro⟨us,h,h5⟩
   cases h with
   |cons h2 h3 h4=>
    refine⟨⟨_,by simpa using h5 0 _ rfl,h2,h3⟩,_,h4,fun k x hk=>?_⟩
    have :=h5 (k+1) x (by simpa using hk)
    rwa [show j+(k+1)=j+1+k by omega]at this
end
def blk:Value→Option Nat
 |.pointer (some a)=>some a.block
 |.slice (some a) _ _=>some a.block
 |.map (some b)=>some b
 |_=>none
inductive AV where
 |r (c:RV)
 |rp (cs:List RV)
 |ow (i:Nat)
 |pt (i o:Nat)
 |pe (i sz k f:Nat)
 |ag (cs:List AV)
 |tu (xs:List AV)
 |fr (T sz:Nat) (es:List (List RV))
 |ol (i n:Nat)
 |sv (i n:Nat)
 |so (i o n c:Nat)
 |cl (f:Nat) (cs:List AV)
 |na
mutual
def AV.rep (Z:Nat→Value) (B:Nat→Prop) (w:World):AV→Value→Prop
 |.r c,u=>RV.rep B w c u
 |.rp cs,u=>∃ad,u= .pointer (some ad)∧ad.block<w.heap.size∧¬B ad.block∧RV.row B w cs ad 0
 |.ow i,u=>u=Z i
 |.pt i o,u=>∃b,blk (Z i)=some b∧u= .pointer (some ⟨b,o,none⟩)
 |.pe i sz k f,u=>∃b,blk (Z i)=some b∧u= .pointer (some ⟨b,k*sz+f,none⟩)
 |.ag cs,u=>∃us,u= .agg us∧AV.reps Z B w cs us.toList
 |.tu xs,u=>∃us,u= .tuple us∧AV.reps Z B w xs us.toList
 |.fr _ _ _,_=>False
 |.ol i n,u=>∃g m c,Z i= .slice (some ⟨g,0,none⟩) m c∧u= .slice (some ⟨g,0,none⟩) n c
 |.sv i n,u=>∃b,blk (Z i)=some b∧u= .slice (some ⟨b,0,none⟩) n n
 |.so i o n c,u=>∃b,blk (Z i)=some b∧u= .slice (some ⟨b,o,none⟩) n c
 |.cl f cs,u=>∃us,u= .func (.func f) #[] us∧AV.reps Z B w cs us.toList
 |.na,_=>True
def AV.reps (Z:Nat→Value) (B:Nat→Prop) (w:World):List AV→List Value→Prop
 |[],us=>us=[]
 |c::cs,us=>∃u us',us=u::us'∧AV.rep Z B w c u∧AV.reps Z B w cs us'
end
mutual
def AV.ids:AV→List Nat
 |.ow i=>[i]
 |.pt i _=>[i]
 |.pe i _ _ _=>[i]
 |.ol i _=>[i]
 |.sv i _=>[i]
 |.so i _ _ _=>[i]
 |.cl _ cs=>AV.idss cs
 |.ag cs=>AV.idss cs
 |.tu xs=>AV.idss xs
 |_=>[]
def AV.idss:List AV→List Nat
 |[]=>[]
 |c::cs=>AV.ids c++AV.idss cs
end
section
variable {B B':Nat→Prop} {Z Z':Nat→Value} {w w':World}
mutual
theorem AV.rep_mono (hU:Upto B w w') (hB:∀k,k<w.heap.size→B' k→B k):∀(c:AV) (_:∀i∈c.ids,Z' i=Z i) (u:Value),AV.rep Z B w c u→AV.rep Z' B' w' c u
 |.r c,_,u,h=>by rw[AV.rep]at h ⊢;exact RV.rep_mono hU hB c u h
 |.rp cs,_,u,h=>by
  rw[AV.rep]at h ⊢
  obtain⟨ad,e,hlt,hb,hr⟩:=h
  exact⟨ad,e,Nat.lt_of_lt_of_le hlt hU.size,fun hb'=>hb (hB _ hlt hb'),RV.row_mono hU hB cs ad 0 hb hlt hr⟩
 |.ow i,hz,u,h=>by rw[AV.rep]at h ⊢;rw[hz i (by simp[AV.ids])];exact h
 |.pt i o,hz,u,h=>by rw[AV.rep]at h ⊢;rw[hz i (by simp[AV.ids])];exact h
 |.pe i sz k f,hz,u,h=>by rw[AV.rep]at h ⊢;rw[hz i (by simp[AV.ids])];exact h
 |.ag cs,hz,u,h=>by
  rw[AV.rep]at h ⊢
  obtain⟨us,e,h⟩:=h
  exact⟨us,e,AV.reps_mono hU hB cs (by simpa[AV.ids]using hz) _ h⟩
 |.tu xs,hz,u,h=>by
  rw[AV.rep]at h ⊢
  obtain⟨us,e,h⟩:=h
  exact⟨us,e,AV.reps_mono hU hB xs (by simpa[AV.ids]using hz) _ h⟩
 |.fr _ _ _,_,u,h=>by rw[AV.rep]at h;exact h.elim
 |.ol i n,hz,u,h=>by rw[AV.rep]at h ⊢;rw[hz i (by simp[AV.ids])];exact h
 |.sv i n,hz,u,h=>by rw[AV.rep]at h ⊢;rw[hz i (by simp[AV.ids])];exact h
 |.so i o n c,hz,u,h=>by rw[AV.rep]at h ⊢;rw[hz i (by simp[AV.ids])];exact h
 |.cl f cs,hz,u,h=>by
  rw[AV.rep]at h ⊢
  obtain⟨us,e,h⟩:=h
  exact⟨us,e,AV.reps_mono hU hB cs (by simpa[AV.ids]using hz) _ h⟩
 |.na,_,u,h=>by rw[AV.rep];trivial
theorem AV.reps_mono (hU:Upto B w w') (hB:∀k,k<w.heap.size→B' k→B k):∀(cs:List AV) (_:∀i∈AV.idss cs,Z' i=Z i) (us:List Value),AV.reps Z B w cs us→AV.reps Z' B' w' cs us
 |[],_,us,h=>by rw[AV.reps]at h ⊢;exact h
 |c::cs,hz,us,h=>by
  rw[AV.reps]at h ⊢
  obtain⟨u,us',e,h1,h2⟩:=h
  exact⟨u,us',e,AV.rep_mono hU hB c (fun i hi=>hz i (by simp[AV.idss,hi])) u h1,AV.reps_mono hU hB cs (fun i hi=>hz i (by simp[AV.idss,hi])) us' h2⟩
end
theorem AV.reps_len {cs:List AV}:∀{us:List Value},AV.reps Z B w cs us→cs.length=us.length:=by
 induction cs with
 |nil=>intro us h;rw[AV.reps]at h;subst h;rfl
 |cons c cs ih=>intro us h;rw[AV.reps]at h;obtain⟨u,us',rfl,_,h2⟩:=h;simp[ih h2]
theorem AV.reps_get {cs:List AV}:∀{us:List Value},AV.reps Z B w cs us→∀{k:Nat} {c:AV},cs[k]? =some c→∃u,us[k]? =some u∧AV.rep Z B w c u:=by
 induction cs with
 |nil=>intro us h k c hk;simp at hk
 |cons c cs ih=>
  intro us h k x hk
  rw[AV.reps]at h
  obtain⟨u,us',rfl,h1,h2⟩:=h
  cases k with
  |zero=>simp at hk;subst hk;exact⟨_,rfl,h1⟩
  |succ k=>simpa using ih h2 (by simpa using hk)
end
inductive Blk where
 |row (T sz:Nat) (es:List (List RV))
 |full (T sz:Nat) (es:List (List RV))
 |var (T:Nat) (cs:List AV)
 |rowk (T sz:Nat) (es:List (List RV)) (n c:Nat)
 |rowo (T sz:Nat) (es:List (List RV)) (cs:List AV)
 |mp (l:List Int)
 |obj (o:Obj)
 |gl (g:Nat) (o:Obj)
def Blk.ids:Blk→List Nat
 |.row _ _ _=>[]
 |.full _ _ _=>[]
 |.var _ cs=>AV.idss cs
 |.rowk _ _ _ _ _=>[]
 |.rowo _ _ _ cs=>AV.idss cs
 |.mp _=>[]
 |.obj _=>[]
 |.gl _ _=>[]
def held (Z:Nat→Value) (B:Nat→Prop) (w:World) (i:Nat):Blk→Prop
 |.row T sz es=>∃us,w.ownsRow 0 T sz (Z i) es.length us∧RVs B w es.flatten us∧∀e∈es,e.length=sz
 |.full T sz es=>∃g us fr,Z i= .slice (some ⟨g,0,none⟩) es.length es.length∧w.heap[g]? =some (.cells us T fr)∧es.length≤maxLen∧RVs B w es.flatten us.toList∧∀e∈es,e.length=sz
 |.var T cs=>∃b us,Z i= .pointer (some ⟨b,0,none⟩)∧w.heap[b]? =some (.cells us T (0,0))∧AV.reps Z B w cs us.toList∧us.all (·.oneCell')=true
 |.rowk T sz es n c=>∃g us,Z i= .slice (some ⟨g,0,none⟩) n c∧w.ownsRow 0 T sz (.slice (some ⟨g,0,none⟩) es.length c) es.length us∧n≤es.length∧RVs B w es.flatten us∧∀e∈es,e.length=sz
 |.rowo T sz es cs=>∃us vs,w.ownsRow 0 T sz (Z i) (es.length+1) (us++vs)∧RVs B w es.flatten us∧AV.reps Z B w cs vs∧(∀e∈es,e.length=sz)∧cs.length=sz∧vs.all (·.oneCell')=true
 |.mp l=>∃b es clock,Z i= .map (some b)∧w.heap[b]? =some (.map es clock)∧es.toList.map (fun e=>(e.key,e.val))=l.map fun k=>(Value.int .i64 k,Value.bool true)
 |.obj o=>∃b,Z i= .pointer (some ⟨b,0,none⟩)∧w.heap[b]? =some o∧∀cs T fr,o≠ .cells cs T fr
 |.gl g o=>Z i= .pointer (some ⟨g,0,none⟩)∧w.heap[g]? =some o
theorem zbY {w:World} {g:Nat} {o:Obj} (h:w.heap[g]? =some o):g<w.heap.size:=by
 rcases Nat.lt_or_ge g w.heap.size with h'|h'
 ·exact h'
 ·rw[Array.getElem?_eq_none h']at h;cases h
section
variable {B B' C:Nat→Prop} {Z Z':Nat→Value} {w w':World}
theorem held.lt {i:Nat} {b:Blk} (h:held Z B w i b) {x:Nat} (hx:blk (Z i)=some x):x<w.heap.size:=by
 cases b with
 |row T sz es=>
  obtain⟨us,h1,_⟩:=h
  rcases h1.2 with⟨e,_⟩|⟨g,cap,cur,e,_,hg,_⟩
  ·rw[e]at hx;cases hx
  ·rw[e]at hx;simp[blk]at hx;subst hx;exact zbY hg
 |full T sz es=>
  obtain⟨g,us,fr,e,hg,_⟩:=h
  rw[e]at hx;simp[blk]at hx;subst hx;exact zbY hg
 |var T cs=>
  obtain⟨b,us,e,hg,_⟩:=h
  rw[e]at hx;simp[blk]at hx;subst hx;exact zbY hg
 |rowk T sz es n c=>
  obtain⟨g,us,e,h1,_⟩:=h
  rcases h1.2 with⟨e',_⟩|⟨g',cap,cur,e',_,hg,_⟩
  ·cases e'
  ·injection e' with e1;injection e1 with e1;injection e1 with e1;subst e1
   rw[e]at hx;simp[blk]at hx;subst hx;exact zbY hg
 |rowo T sz es cs=>
  obtain⟨us,vs,h1,_⟩:=h
  rcases h1.2 with⟨e,_⟩|⟨g,cap,cur,e,_,hg,_⟩
  ·rw[e]at hx;cases hx
  ·rw[e]at hx;simp[blk]at hx;subst hx;exact zbY hg
 |mp l=>
  obtain⟨b,es,clock,e,hg,_⟩:=h
  rw[e]at hx;simp[blk]at hx;subst hx;exact zbY hg
 |obj o=>
  obtain⟨b,e,hg,_⟩:=h
  rw[e]at hx;simp[blk]at hx;subst hx;exact zbY hg
 |gl g o=>
  obtain⟨e,hg⟩:=h
  rw[e]at hx;simp[blk]at hx;subst hx;exact zbY hg
theorem held.keep {i:Nat} {b:Blk} (h:held Z B w i b) (hU:Upto B w w') (hB:∀k,k<w.heap.size→B' k→B k) (hz:Z' i=Z i) (hzs:∀j∈b.ids,Z' j=Z j)
  (hk:∀x,blk (Z i)=some x→w'.heap[x]? =w.heap[x]?):held Z' B' w' i b:=by
 cases b with
 |row T sz es=>
  obtain⟨us,h1,h2,h3⟩:=h
  refine⟨us,⟨h1.1,?_⟩,h2.mono hU hB,h3⟩
  rw[hz]
  rcases h1.2 with h0|⟨g,cap,cur,e,hb,hg,r⟩
  ·exact .inl h0
  ·exact .inr ⟨g,cap,cur,e,hb,(hk g (by rw[e];rfl)).trans hg,r⟩
 |full T sz es=>
  obtain⟨g,us,fr,e,hg,h1,h2,h3⟩:=h
  exact⟨g,us,fr,hz.trans e,(hk g (by rw[e];rfl)).trans hg,h1,h2.mono hU hB,h3⟩
 |var T cs=>
  obtain⟨b,us,e,hg,h2,h3⟩:=h
  exact⟨b,us,hz.trans e,(hk b (by rw[e];rfl)).trans hg,AV.reps_mono hU hB cs hzs _ h2,h3⟩
 |rowk T sz es n c=>
  obtain⟨g,us,e,h1,hn,h2,h3⟩:=h
  refine⟨g,us,hz.trans e,⟨h1.1,?_⟩,hn,h2.mono hU hB,h3⟩
  rcases h1.2 with⟨e',_⟩|⟨g',cap,cur,e',hb,hg,r⟩
  ·cases e'
  ·have hg':g=g':=by injection e' with e1;injection e1 with e1;injection e1 with e1
   subst hg'
   exact .inr ⟨g,cap,cur,e',hb,(hk g (by rw[e];rfl)).trans hg,r⟩
 |rowo T sz es cs=>
  obtain⟨us,vs,h1,h2,h3,h4⟩:=h
  refine⟨us,vs,⟨h1.1,?_⟩,h2.mono hU hB,AV.reps_mono hU hB cs hzs _ h3,h4⟩
  rw[hz]
  rcases h1.2 with h0|⟨g,cap,cur,e,hb,hg,r⟩
  ·exact .inl h0
  ·exact .inr ⟨g,cap,cur,e,hb,(hk g (by rw[e];rfl)).trans hg,r⟩
 |mp l=>
  obtain⟨b,es,clock,e,hg,h3⟩:=h
  exact⟨b,es,clock,hz.trans e,(hk b (by rw[e];rfl)).trans hg,h3⟩
 |obj o=>
  obtain⟨b,e,hg,h3⟩:=h
  exact⟨b,hz.trans e,(hk b (by rw[e];rfl)).trans hg,h3⟩
 |gl g o=>
  obtain⟨e,hg⟩:=h
  exact⟨hz.trans e,(hk g (by rw[e];rfl)).trans hg⟩
theorem held.anti {i:Nat} {b:Blk} (h:held Z B w i b) (hB:∀k,k<w.heap.size→B' k→B k):held Z B' w i b:=h.keep (Upto.refl _) hB rfl (fun _ _=>rfl) (fun _ _=>rfl)
end
structure Ln where
 n:Nat
 m:Nat
structure Cx where
 P:Program
 w0:World
 M0:Nat→Prop
 Z0:Nat→Value
 ln:Ln
 N:Nat
 df:List Deferred:=[]
def Cx.nl (C:Cx):Nat:=C.ln.n
def Cx.lent (C:Cx) (x:Nat):Prop:=∃i,i<C.nl∧blk (C.Z0 i)=some x
def Own (C:Cx) (H:Nat→Option Blk) (Z:Nat→Value) (x:Nat):Prop:=C.M0 x∨∃i b,H i=some b∧blk (Z i)=some x
structure SimF (C:Cx) (D:Nat→Prop) (env:Nat→AV) (H:Nat→Option Blk) (Z:Nat→Value) (a:Act) (w:World):Prop where
 size:a.tmps.size=C.N
 defers:a.defers=C.df
 frame:Upto C.lent C.w0 w
 m0:∀x,C.M0 x→x<C.w0.heap.size
 slots:∀t,(env t).rep Z (Own C H Z) w (a.tmps.getD t undef)
 ids:∀t,∀i∈(env t).ids,D i
 holds:∀i b,H i=some b→held Z (Own C H Z) w i b∧D i∧∀j∈b.ids,D j
 dist:∀i j b c,H i=some b→H j=some c→i≠j→∀x,blk (Z i)=some x→blk (Z j)≠some x
 fresh:∀i b x,H i=some b→blk (Z i)=some x→i<C.nl∨C.w0.heap.size≤x∨∃j,j<C.ln.m∧blk (C.Z0 j)=some x
 lm:C.ln.m≤C.nl
 zl:∀i,i<C.nl→Z i=C.Z0 i∧D i
structure Sp where
 run:Bool
 rd:List (Nat×Blk)
 out:AV
 up:List (Nat×Option Blk)
 frs:List Blk
def New (k:Nat) (sp:Sp) (Z':Nat→Value) (M:Nat→Prop) (x:Nat):Prop:=M x∨∃j,j<sp.frs.length∧blk (Z' (k+j))=some x
structure zn1 (k:Nat) (sp:Sp) (Z:Nat→Value) (M:Nat→Prop) (w:World) (v:Value) (w':World) (Z':Nat→Value):Prop where
 z:∀i,(i<k∨k+sp.frs.length≤i)→Z' i=Z i
 out:sp.out.rep Z' (New k sp Z' M) w' v
 up:∀i b,(i,some b)∈sp.up→held Z' (New k sp Z' M) w' i b
 fr:∀j b,sp.frs[j]? =some b→held Z' (New k sp Z' M) w' (k+j) b
 dist:∀j j' x,j<sp.frs.length→j'<sp.frs.length→j≠j'→blk (Z' (k+j))=some x→blk (Z' (k+j'))≠some x
 fresh:∀j x,j<sp.frs.length→blk (Z' (k+j))=some x→w.heap.size≤x∨∃i,(i,none)∈sp.up∧blk (Z i)=some x
 upto:Upto (fun x=>∃i o,(i,o)∈sp.up∧blk (Z i)=some x) w w'
def After (k:Nat) (sp:Sp) (Z:Nat→Value) (M:Nat→Prop) (w:World) (v:Value) (w':World):Prop:=∃Z',zn1 k sp Z M w v w' Z'
def updE (d:Option Nat) (x:AV) (env:Nat→AV) (t:Nat):AV:=if d=some t then x else env t
def updH (k:Nat) (sp:Sp) (H:Nat→Option Blk) (i:Nat):Option Blk:=
 if k≤i∧i<k+sp.frs.length then sp.frs[i-k]? else match sp.up.lookup i with |some o=>o|none=>H i
structure SpOk (L:Ln) (D:Nat→Prop) (H:Nat→Option Blk) (k:Nat) (sp:Sp):Prop where
 rd:∀i b,(i,b)∈sp.rd→H i=some b
 up:∀i o,(i,o)∈sp.up→∃b,(i,b)∈sp.rd
 nd:∀i o,(i,o)∈sp.up→sp.up.lookup i=some o
 loc:∀i,(i,none)∈sp.up→i<L.m∨L.n≤i
 free:∀i,D i→i<k∨k+sp.frs.length≤i
 outs:∀i∈sp.out.ids,D i∨(k≤i∧i<k+sp.frs.length)
 frs:∀b∈sp.frs,∀i∈b.ids,D i∨(k≤i∧i<k+sp.frs.length)
 ups:∀i b,(i,some b)∈sp.up→∀i∈b.ids,D i∨(k≤i∧i<k+sp.frs.length)
theorem zdn {α:Type}:∀{l:List (Nat×α)} {i:Nat} {o:α},l.lookup i=some o→(i,o)∈l
 |[],_,_,h=>by simp at h
 |(j,x)::l,i,o,h=>by
  rw[List.lookup_cons]at h
  by_cases hij:i=j
  ·subst hij;simp at h;subst h;simp
  ·have :(i == j)=false:=by simpa using hij
   rw[this]at h
   exact List.mem_cons_of_mem _ (zdn h)
theorem zfg {α:Type}:∀{l:List (Nat×α)} {i:Nat} {o:α},l.lookup i=none→(i,o)∉l
 |[],_,_,_=>by simp
 |(j,x)::l,i,o,h=>by
  rw[List.lookup_cons]at h
  by_cases hij:i=j
  ·subst hij;simp at h
  ·have :(i == j)=false:=by simpa using hij
   rw[this]at h
   intro hm
   rcases List.mem_cons.1 hm with e|e
   ·injection e with e1 e2;exact hij e1
   ·exact zfg h e
section
variable {C:Cx} {D:Nat→Prop} {env:Nat→AV} {H:Nat→Option Blk} {Z:Nat→Value} {a:Act} {w w':World}
theorem SimF.m_lt (S:SimF C D env H Z a w):∀x,Own C H Z x→x<w.heap.size:=by
 rintro x (h|⟨i,b,hi,hx⟩)
 ·exact Nat.lt_of_lt_of_le (S.m0 x h) S.frame.size
 ·exact(S.holds i b hi).1.lt hx
theorem znt (a:Act) (d:Option Nat) (v:Value) (t:Nat) (h:∀x,d=some x→x<a.tmps.size):(a.put d v).tmps.getD t undef=if d=some t then v else a.tmps.getD t undef:=by
 cases d with
 |none=>simp[Act.put]
 |some e=>
  have he:=h e rfl
  by_cases het:e=t
  ·subst het;simp[Act.put,he]
  ·simp[Act.put,Array.getElem?_setIfInBounds_ne het,het]
theorem zgp (a:Act) (d:Option Nat) (v:Value):(a.put d v).tmps.size=a.tmps.size:=by cases d<;>simp[Act.put]
theorem put_defers (a:Act) (d:Option Nat) (v:Value):(a.put d v).defers=a.defers:=by cases d<;>rfl
theorem SimF.step {k:Nat} {sp:Sp} {d:Option Nat} {v:Value} (S:SimF C D env H Z a w) (hs:SpOk C.ln D H k sp) (hd:∀x,d=some x→x<C.N) (hA:After k sp Z (Own C H Z) w v w'):
  ∃Z',SimF C (fun i=>D i∨(k≤i∧i<k+sp.frs.length)) (updE d sp.out env) (updH k sp H) Z' (a.put d v) w':=by
 obtain⟨Z',A⟩:=hA
 have hz:∀i,D i→Z' i=Z i:=fun i hi=>A.z i (hs.free i hi)
 -- a number that lives on,unchanged or with other cells,is no new one
 have hcase:∀i b,updH k sp H i=some b→(k≤i∧i<k+sp.frs.length∧sp.frs[i-k]? =some b)∨((i<k∨k+sp.frs.length≤i)∧(i,some b)∈sp.up)∨((i<k∨k+sp.frs.length≤i)∧H i=some b∧∀o,(i,o)∉sp.up):=by
  intro i b h
  unfold updH at h
  split at h
  ·rename_i hi;exact .inl ⟨hi.1,hi.2,h⟩
  ·rename_i hi
   have hi':i<k∨k+sp.frs.length≤i:=by omega
   split at h
   ·rename_i o ho
    subst h
    exact .inr (.inl ⟨hi',zdn ho⟩)
   ·rename_i ho
    exact .inr (.inr ⟨hi',h,fun o=>zfg ho⟩)
 -- .. it was there before
 have hold:∀i b,updH k sp H i=some b→(i<k∨k+sp.frs.length≤i)→(∃c,H i=some c)∧(i,none)∉sp.up:=by
  intro i b h hi
  rcases hcase i b h with h1|h1|h1
  ·omega
  ·obtain⟨c,hc⟩:=hs.up i _ h1.2
   refine⟨⟨c,hs.rd i c hc⟩,fun hn=>?_⟩
   have e1:=hs.nd i _ h1.2
   have e2:=hs.nd i _ hn
   rw[e1]at e2;cases e2
  ·exact⟨⟨b,h1.2.1⟩,h1.2.2 _⟩
 have hM:∀x,x<w.heap.size→Own C (updH k sp H) Z' x→Own C H Z x:=by
  rintro x hx (h|⟨i,b,hi,hb⟩)
  ·exact .inl h
  ·rcases Nat.lt_or_ge i k with hk|hk
   ·obtain⟨⟨c,hc⟩,_⟩:=hold i b hi (.inl hk)
    rw[A.z i (.inl hk)]at hb
    exact .inr ⟨i,c,hc,hb⟩
   ·rcases Nat.lt_or_ge i (k+sp.frs.length)with hk2|hk2
    ·rcases A.fresh (i-k) x (by omega) (by rwa [show k+(i-k)=i by omega])with h|⟨j,hj,hjx⟩
     ·omega
     ·obtain⟨c,hc⟩:=hs.up j _ hj
      exact .inr ⟨j,c,hs.rd j c hc,hjx⟩
    ·obtain⟨⟨c,hc⟩,_⟩:=hold i b hi (.inr hk2)
     rw[A.z i (.inr hk2)]at hb
     exact .inr ⟨i,c,hc,hb⟩
 have hU:Upto (Own C H Z) w w':=A.upto.mono (by
  rintro x _ ⟨i,o,hi,hx⟩
  obtain⟨c,hc⟩:=hs.up i o hi
  exact .inr ⟨i,c,hs.rd i c hc,hx⟩)
 -- the new own blocks are among New
 have hN:∀x,x<w'.heap.size→Own C (updH k sp H) Z' x→New k sp Z' (Own C H Z) x:=by
  rintro x hx (h|⟨i,b,hi,hb⟩)
  ·exact .inl (.inl h)
  ·rcases Nat.lt_or_ge i k with hk|hk
   ·obtain⟨⟨c,hc⟩,_⟩:=hold i b hi (.inl hk)
    rw[A.z i (.inl hk)]at hb
    exact .inl (.inr ⟨i,c,hc,hb⟩)
   ·rcases Nat.lt_or_ge i (k+sp.frs.length)with hk2|hk2
    ·exact .inr ⟨i-k,by omega,by rwa [show k+(i-k)=i by omega]⟩
    ·obtain⟨⟨c,hc⟩,_⟩:=hold i b hi (.inr hk2)
     rw[A.z i (.inr hk2)]at hb
     exact .inl (.inr ⟨i,c,hc,hb⟩)
 refine⟨Z',?_,?_,?_,S.m0,?_,?_,?_,?_,?_,S.lm,fun i hi=>⟨(hz i (S.zl i hi).2).trans (S.zl i hi).1,.inl (S.zl i hi).2⟩⟩
 ·rw[zgp];exact S.size
 ·rw[put_defers];exact S.defers
 ·refine⟨A.upto.os.trans S.frame.os,A.upto.tape.trans S.frame.tape,A.upto.output.trans S.frame.output,Nat.le_trans S.frame.size A.upto.size,fun x hx hl=>?_⟩
  refine(A.upto.block x (Nat.lt_of_lt_of_le hx S.frame.size) ?_).trans (S.frame.block x hx hl)
  rintro⟨i,o,hi,hix⟩
  obtain⟨c,hc⟩:=hs.up i o hi
  rcases S.fresh i c x (hs.rd i c hc) hix with h|h|⟨j,h,hj⟩
  ·exact hl ⟨i,h,by rw[←(S.zl i h).1];exact hix⟩
  ·omega
  ·exact hl ⟨j,Nat.lt_of_lt_of_le h S.lm,hj⟩
 ·intro t
  rw[znt a d v t (fun x hx=>by rw[S.size];exact hd x hx)]
  unfold updE
  split
  ·exact AV.rep_mono (Upto.refl _) hN _ (fun _ _=>rfl) _ A.out
  ·exact AV.rep_mono hU hM _ (fun i hi=>hz i (S.ids t i hi)) _ (S.slots t)
 ·intro t i hi
  unfold updE at hi
  split at hi
  ·exact hs.outs i hi
  ·exact .inl (S.ids t i hi)
 ·intro i b h
  rcases hcase i b h with⟨h1,h2,h3⟩|⟨h1,h2⟩|⟨h1,h2,h3⟩
  ·have :=A.fr (i-k) b h3
   rw[show k+(i-k)=i by omega]at this
   exact⟨this.anti hN,.inr ⟨h1,h2⟩,hs.frs b (List.mem_of_getElem? h3)⟩
  ·refine⟨(A.up i b h2).anti hN,?_,hs.ups i b h2⟩
   obtain⟨c,hc⟩:=hs.up i _ h2
   exact .inl (S.holds i c (hs.rd i c hc)).2.1
  ·obtain⟨g1,g2,g3⟩:=S.holds i b h2
   refine⟨g1.keep hU hM (hz i g2) (fun j hj=>hz j (g3 j hj)) (fun x hx=>A.upto.block x (g1.lt hx) ?_),.inl g2,fun j hj=>.inl (g3 j hj)⟩
   rintro⟨j,o,hj,hjx⟩
   obtain⟨c,hc⟩:=hs.up j o hj
   exact S.dist i j b c h2 (hs.rd j c hc) (fun e=>h3 o (e▸hj)) x hx hjx
 ·intro i j b c hi hj hij x hxi hxj
  by_cases hi2:k≤i∧i<k+sp.frs.length<;>by_cases hj2:k≤j∧j<k+sp.frs.length
  ·exact A.dist (i-k) (j-k) x (by omega) (by omega) (by omega) (by rwa [show k+(i-k)=i by omega]) (by rwa [show k+(j-k)=j by omega])
  ·have hj3:j<k∨k+sp.frs.length≤j:=by omega
   obtain⟨⟨c',hc'⟩,hjn⟩:=hold j c hj hj3
   rw[A.z j hj3]at hxj
   rcases A.fresh (i-k) x (by omega) (by rwa [show k+(i-k)=i by omega])with h|⟨q,hq,hqx⟩
   ·have :=(S.holds j c' hc').1.lt hxj;omega
   ·obtain⟨cq,hcq⟩:=hs.up q _ hq
    exact S.dist q j cq c' (hs.rd q cq hcq) hc' (fun e=>hjn (e▸hq)) x hqx hxj
  ·have hi3:i<k∨k+sp.frs.length≤i:=by omega
   obtain⟨⟨c',hc'⟩,hin⟩:=hold i b hi hi3
   rw[A.z i hi3]at hxi
   rcases A.fresh (j-k) x (by omega) (by rwa [show k+(j-k)=j by omega])with h|⟨q,hq,hqx⟩
   ·have :=(S.holds i c' hc').1.lt hxi;omega
   ·obtain⟨cq,hcq⟩:=hs.up q _ hq
    exact S.dist q i cq c' (hs.rd q cq hcq) hc' (fun e=>hin (e▸hq)) x hqx hxi
  ·have hi3:i<k∨k+sp.frs.length≤i:=by omega
   have hj3:j<k∨k+sp.frs.length≤j:=by omega
   obtain⟨⟨b',hb'⟩,_⟩:=hold i b hi hi3
   obtain⟨⟨c',hc'⟩,_⟩:=hold j c hj hj3
   rw[A.z i hi3]at hxi
   rw[A.z j hj3]at hxj
   exact S.dist i j b' c' hb' hc' hij x hxi hxj
 ·intro i b x hi hx
  by_cases hi2:k≤i∧i<k+sp.frs.length
  ·rcases A.fresh (i-k) x (by omega) (by rwa [show k+(i-k)=i by omega])with h|⟨q,hq,hqx⟩
   ·exact .inr (.inl (Nat.le_trans S.frame.size h))
   ·obtain⟨cq,hcq⟩:=hs.up q _ hq
    rcases hs.loc q hq with h|h
    ·exact .inr (.inr ⟨q,h,by rw[←(S.zl q (Nat.lt_of_lt_of_le h S.lm)).1];exact hqx⟩)
    ·rcases S.fresh q cq x (hs.rd q cq hcq) hqx with h'|h'
     ·unfold Cx.nl at h';omega
     ·exact .inr h'
  ·have hi3:i<k∨k+sp.frs.length≤i:=by omega
   obtain⟨⟨b',hb'⟩,_⟩:=hold i b hi hi3
   rw[A.z i hi3]at hx
   exact S.fresh i b' x hb' hx
end
def Exec (P:Program) (o:Oper) (a:Act) (w:World) (R:Value→World→Prop):Prop:=
 match (execOp a.eval o).run P w with
 |.ok (.value v) w'=>R v w'
 |.ok .skip w'=>R undef w'
 |.ok (.enter f args) w'=>Calls P f args w' fun e w''=>∃v,e= .returned v∧R v w''
 |_=>False
theorem Exec.wp {P:Program} {o:Oper} {a:Act} {w:World} {R:Value→World→Prop} {next :Act→World→Prop} {Q:Exit→Act→World→Prop} (h:Exec P o a w R) (hn:∀v w',R v w'→next (a.put o.dst v) w'):o.wp P a w next Q:=by
 unfold Exec at h
 unfold Oper.wp
 generalize(execOp a.eval o).run P w=r at *
 cases r with
 |ok n w'=>
  cases n<;>simp only[Oper.upon]at h ⊢
  case value v=>exact hn _ _ h
  case skip=>exact hn _ _ h
  case enter f args=>exact h.mono fun e w'' ⟨v,e1,hr⟩=>by subst e1;exact hn _ _ hr
 |halt x w'=>exact h.elim
def evA (env:Nat→AV):Operand→AV
 |.tmp t=>env t
 |.const v=>.r (.v v)
 |.global g=>.r (.v (.pointer (some ⟨g,0,none⟩)))
 |.func f=>.r (.v (.func (.func f) #[] #[]))
theorem SimF.ev {C:Cx} {D:Nat→Prop} {env:Nat→AV} {H:Nat→Option Blk} {Z:Nat→Value} {a:Act} {w:World} (S:SimF C D env H Z a w) (x:Operand):(evA env x).rep Z (Own C H Z) w (a.eval x):=by
 cases x with
 |tmp t=>exact S.slots t
 |const v=>simp only[evA,Act.eval,AV.rep,RV.rep]
 |global g=>simp only[evA,Act.eval,AV.rep,RV.rep]
 |func f=>simp only[evA,Act.eval,AV.rep,RV.rep]
def OpOk (P:Program) (o:Oper) (env:Nat→AV) (k:Nat) (sp:Sp):Prop:=
 ∀(a:Act) (w:World) (Z:Nat→Value) (M:Nat→Prop),(∀x,M x→x<w.heap.size)→(∀x∈o.op.operands.toList,(evA env x).rep Z M w (a.eval x))→
  (∀i b,(i,b)∈sp.rd→held Z M w i b∧∀x,blk (Z i)=some x→M x)→
  (∀i j b c,(i,b)∈sp.rd→(j,c)∈sp.rd→i≠j→∀x,blk (Z i)=some x→blk (Z j)≠some x)→Exec P o a w (After k sp Z M w)
def za3 (ops:Array Oper) (env:Nat→AV) (o:Oper) (b:Bool):Prop:=
 (o.guard=none∧b=true)∨(∃j want t x,o.guard=some (j,want)∧(ops[j]?).bind (·.dst)=some t∧env t= .r (.v (.bool x))∧b=(x == want))∨∃j want t,o.guard=some (j,want)∧(ops[j]?).bind (·.dst)=some t∧env t= .r (.v undef)∧b=false
def zaV:Sp:=⟨false,[],.r (.v undef),[],[]⟩
structure StepA (P:Program) (L:Ln) (N:Nat) (ops:Array Oper) (o:Oper) (env:Nat→AV) (H:Nat→Option Blk) (k:Nat) (sp:Sp):Prop where
 dst:∀x,o.dst=some x→x<N
 want:za3 ops env o sp.run
 ok:sp.run=true→OpOk P o env k sp
 skip:sp.run=false→sp=zaV
 sp:∀D:Nat→Prop,(∀t,∀i∈(env t).ids,D i)→(∀i b,H i=some b→D i∧∀j∈b.ids,D j)→(∀i,D i→i<k∨k+sp.frs.length≤i)→SpOk L D H k sp
theorem zfF {ops:Array Oper} {env:Nat→AV} {o:Oper} {b:Bool} {C:Cx} {D:Nat→Prop} {H:Nat→Option Blk} {Z:Nat→Value} {a:Act} {w:World} (S:SimF C D env H Z a w) (h:za3 ops env o b):Region.wanted o (yielded ops a.tmps)=b:=by
 unfold Region.wanted
 rcases h with⟨hg,rfl⟩|⟨j,want,t,x,hg,ht,he,rfl⟩|⟨j,want,t,hg,ht,he,rfl⟩
 ·rw[hg]
 ·rw[hg]
  have hr:=S.slots t
  rw[he,AV.rep,RV.rep]at hr
  have hy:yielded ops a.tmps j=some x:=by
   unfold yielded
   rw[ht]
   simp only[Option.bind_some]
   have :a.tmps[t]? =some (.bool x):=by
    have h2:(a.tmps[t]?).getD undef= .bool x:=by simpa using hr
    cases h3:a.tmps[t]? with
    |none=>rw[h3]at h2;simp[undef]at h2
    |some y=>rw[h3]at h2;simpa using h2
   rw[this]
  simp only[hy]
  cases x<;>cases want<;>rfl
 ·rw[hg]
  have hr:=S.slots t
  rw[he,AV.rep,RV.rep]at hr
  have hy:yielded ops a.tmps j=none:=by
   unfold yielded
   rw[ht]
   simp only[Option.bind_some]
   have h2:(a.tmps[t]?).getD undef=undef:=by simpa using hr
   cases h3:a.tmps[t]? with
   |none=>rfl
   |some y=>rw[h3]at h2;have :y=undef:=by simpa using h2
            subst this;rfl
  simp only[hy]
  cases want<;>rfl
theorem SimF.oper {P:Program} {N:Nat} {ops:Array Oper} {o:Oper} {C:Cx} {D:Nat→Prop} {env:Nat→AV} {H:Nat→Option Blk} {Z:Nat→Value} {a:Act} {w:World} {k:Nat} {sp:Sp} {next :Act→World→Prop} {Q:Exit→Act→World→Prop}
  (S:SimF C D env H Z a w) (hP:C.P=P) (hN:C.N=N) (hdst:∀x,o.dst=some x→x<N) (hw:za3 ops env o sp.run) (hok:sp.run=true→OpOk P o env k sp) (hskip:sp.run=false→sp=zaV) (hsp:SpOk C.ln D H k sp)
  (hn:∀Z' a' w',SimF C (fun i=>D i∨(k≤i∧i<k+sp.frs.length)) (updE o.dst sp.out env) (updH k sp H) Z' a' w'→next a' w'):
  if Region.wanted o (yielded ops a.tmps)then o.wp P a w next Q∨(o.asks P a w∧LetsOut Q)else next (a.put o.dst undef) w:=by
 rw[zfF S hw]
 cases hr:sp.run with
 |true=>
  rw[if_pos rfl]
  refine .inl ((hok hr a w Z (Own C H Z) S.m_lt (fun x _=>S.ev x) (fun i b hb=>⟨(S.holds i b (hsp.rd i b hb)).1,fun x hx=>.inr ⟨i,b,hsp.rd i b hb,hx⟩⟩) (fun i j b c hb hc hij x hx=>S.dist i j b c (hsp.rd i b hb) (hsp.rd j c hc) hij x hx)).wp fun v w' hA=>?_)
  obtain⟨Z',S'⟩:=S.step hsp (d:=o.dst) (fun x hx=>hN▸hdst x hx) hA
  exact hn _ _ _ S'
 |false=>
  rw[if_neg (by simp)]
  have e:=hskip hr
  obtain⟨Z',S'⟩:=S.step hsp (d:=o.dst) (v:=undef) (w':=w) (fun x hx=>hN▸hdst x hx) ⟨Z,by
   subst e
   exact⟨fun _ _=>rfl,by simp only[zaV,AV.rep,RV.rep],fun i b h=>by simp[zaV]at h,fun j b h=>by simp[zaV]at h,fun j j' x h=>by simp[zaV]at h,fun j x h=>by simp[zaV]at h,Upto.refl _⟩⟩
  exact hn _ _ _ S'
/-! ## States as lists -/
structure St where
 env:List (Nat×AV)
 H:List (Nat×Option Blk)
 nx:Nat
def get:List (Nat×AV)→Nat→AV
 |[],_=>.na
 |(k,x)::l,t=>bif Nat.beq k t then x else get l t
def getH:List (Nat×Option Blk)→Nat→Option Blk
 |[],_=>none
 |(k,x)::l,t=>bif Nat.beq k t then x else getH l t
def St.envF (S:St):Nat→AV:=get S.env
def St.HF (S:St):Nat→Option Blk:=getH S.H
def frsL:Nat→List Blk→List (Nat×Option Blk)
 |_,[]=>[]
 |k,b::bs=>(k,some b)::frsL (k+1) bs
def St.app (S:St) (d:Option Nat) (sp:Sp):St:=
 { env:=match d with |some t=>(t,sp.out)::S.env|none=>S.env,H:=frsL S.nx sp.frs++(sp.up++S.H),nx:=S.nx+sp.frs.length}
theorem zf7 (S:St) (d:Option Nat) (sp:Sp):(S.app d sp).envF=updE d sp.out S.envF:=by
 funext t
 cases d with
 |none=>simp[St.app,St.envF,updE]
 |some k=>
  by_cases h:k=t
  ·subst h;simp[St.app,St.envF,updE,get]
  ·have :Nat.beq k t=false:=by cases hb:Nat.beq k t with
    |false=>rfl
    |true=>exact absurd (Nat.eq_of_beq_eq_true hb) h
   simp[St.app,St.envF,updE,get,this,h]
theorem zfe (l m:List (Nat×Option Blk)) (i:Nat):getH (l++m) i=match l.lookup i with |some o=>o|none=>getH m i:=by
 induction l with
 |nil=>rfl
 |cons p l ih=>
  obtain⟨k,x⟩:=p
  rw[List.cons_append,getH,List.lookup_cons]
  by_cases h:k=i
  ·subst h;simp
  ·have h1:Nat.beq k i=false:=by cases hb:Nat.beq k i with
    |false=>rfl
    |true=>exact absurd (Nat.eq_of_beq_eq_true hb) h
   have h2:(i == k)=false:=by simpa using fun e=>h e.symm
   rw[h1,h2]
   exact ih
theorem zhF (bs:List Blk):∀(k i:Nat),(frsL k bs).lookup i=if k≤i∧i<k+bs.length then some (bs[i-k]?)else none:=by
 induction bs with
 |nil=>intro k i;rw[if_neg (by simp)];rfl
 |cons b bs ih=>
  intro k i
  rw[frsL,List.lookup_cons]
  by_cases h:i=k
  ·subst h;simp
  ·have h2:(i == k)=false:=by simpa using h
   rw[h2]
   simp only[]
   rw[ih (k+1) i]
   by_cases hi:k+1≤i∧i<k+1+bs.length
   ·rw[if_pos hi,if_pos (by simp;omega)]
    rw[show i-k=(i-(k+1))+1 by omega,List.getElem?_cons_succ]
   ·rw[if_neg hi,if_neg (by simp;omega)]
theorem zlh (S:St) (d:Option Nat) (sp:Sp):(S.app d sp).HF=updH S.nx sp S.HF:=by
 funext i
 unfold St.HF St.app updH
 simp only
 rw[zfe,zhF,zfe]
 split
 ·rename_i o ho
  split at ho
  ·rename_i hi
   rw[if_pos hi]
   injection ho with ho
   exact ho.symm
  ·cases ho
 ·rename_i ho
  split at ho
  ·cases ho
  ·rename_i hi
   exact(if_neg hi).symm
def Sim (C:Cx) (S:St) (a:Act) (w:World):Prop:=∃Z,SimF C (fun i=>i<S.nx) S.envF S.HF Z a w
theorem SimF.monoD {C:Cx} {D D':Nat→Prop} {env:Nat→AV} {H:Nat→Option Blk} {Z:Nat→Value} {a:Act} {w:World} (S:SimF C D env H Z a w) (h:∀i,D i→D' i):SimF C D' env H Z a w:=
 ⟨S.size,S.defers,S.frame,S.m0,S.slots,fun t i hi=>h i (S.ids t i hi),fun i b hb=>⟨(S.holds i b hb).1,h i (S.holds i b hb).2.1,fun j hj=>h j ((S.holds i b hb).2.2 j hj)⟩,S.dist,S.fresh,S.lm,fun i hi=>⟨(S.zl i hi).1,h i (S.zl i hi).2⟩⟩
def wpA (P:Program) (L:Ln) (N:Nat) (ops:Array Oper) (chk:List (Nat×Sp)→Bool) (Q:St→Prop):List Oper→St→List (Nat×Sp)→Prop
 |[],S,tr=>chk tr.reverse=true∧Q S
 |o::l,S,tr=>∃sp,StepA P L N ops o S.envF S.HF S.nx sp∧wpA P L N ops chk Q l (S.app o.dst sp) ((S.nx,sp)::tr)
theorem zd8 {P:Program} {ops:Array Oper} {chk:List (Nat×Sp)→Bool} {Q:St→Prop} {Q':Exit→Act→World→Prop} {C:Cx} (hP:C.P=P) (hQ:∀S a w,Q S→Sim C S a w→Q' .normal a w):
  ∀(l:List Oper) (S:St) (tr:List (Nat×Sp)) (a:Act) (w:World),wpA P C.ln C.N ops chk Q l S tr→Sim C S a w→wpList P ops Q' l a w
 |[],S,tr,a,w,h,hs=>hQ S a w h.2 hs
 |o::l,S,tr,a,w,⟨sp,h1,h2⟩,⟨Z,hs⟩=>by
  unfold wpList
  have hsp:=h1.sp (fun i=>i<S.nx) hs.ids (fun i b hb=>⟨(hs.holds i b hb).2.1,(hs.holds i b hb).2.2⟩) (fun i hi=>.inl hi)
  refine hs.oper (k:=S.nx) (sp:=sp) hP rfl h1.dst h1.want h1.ok h1.skip hsp fun Z' a' w' hs'=>?_
  refine zd8 hP hQ l (S.app o.dst sp) _ a' w' h2 ⟨Z',?_⟩
  rw[zf7,zlh]
  exact hs'.monoD fun i hi=>by
   show i<S.nx+sp.frs.length
   have :∀i,i<S.nx∨(S.nx≤i∧i<S.nx+sp.frs.length)→i<S.nx+sp.frs.length:=by intro i h;omega
   exact this i hi
theorem zbv {a b:Nat}:Nat.ble a b=true↔a≤b:=by rw[Nat.ble_eq]
theorem za2 {a b:Nat}:Nat.blt a b=true↔a<b:=by rw[Nat.blt_eq]
def spAt (tr:List (Nat×Sp)) (q:Nat):Sp:=match tr[q]? with |some p=>p.2|none=>zaV
def kAt (tr:List (Nat×Sp)) (q:Nat):Nat:=match tr[q]? with |some p=>p.1|none=>0
def zcd (ops:Array Oper) (q:Nat):Option Nat:=match ops[q]? with |some o=>o.dst|none=>none
def zaQ (ops:Array Oper) (tr:List (Nat×Sp)) (env0:Nat→AV) (f:Nat→Bool):Nat→Nat→AV
 |0=>env0
 |q+1=>bif f q then updE (zcd ops q) (spAt tr q).out (zaQ ops tr env0 f q)else zaQ ops tr env0 f q
def hAt (tr:List (Nat×Sp)) (h0:Nat→Option Blk) (f:Nat→Bool):Nat→Nat→Option Blk
 |0=>h0
 |q+1=>bif f q then updH (kAt tr q) (spAt tr q) (hAt tr h0 f q)else hAt tr h0 f q
def all_:Nat→Bool:=fun _=>true
def inR (tr:List (Nat×Sp)) (q i:Nat):Bool:=Nat.ble (kAt tr q) i && Nat.blt i (kAt tr q+(spAt tr q).frs.length)
def tou (tr:List (Nat×Sp)) (q i:Nat):Bool:=inR tr q i || (spAt tr q).up.any fun p=>Nat.beq p.1 i
section
variable {ops:Array Oper} {tr:List (Nat×Sp)} {env0:Nat→AV} {h0:Nat→Option Blk}
theorem zcw {f:Nat→Bool} {t:Nat} (q:Nat):∀m,q≤m→(∀j,q≤j→j<m→zcd ops j=some t→f j=false)→zaQ ops tr env0 f m t=zaQ ops tr env0 f q t
 |0,hm,_=>by
  have :q=0:=by omega
  subst this;rfl
 |m+1,hm,h=>by
  rcases Nat.lt_or_ge m q with hq|hq
  ·have :q=m+1:=by omega
   subst this;rfl
  ·have ih:=zcw q m hq (fun j h1 h2=>h j h1 (by omega))
   rw[zaQ]
   cases hf:f m with
   |false=>simpa using ih
   |true=>
    have hne:zcd ops m≠some t:=fun e=>by have :=h m hq (by omega) e;rw[hf]at this;cases this
    simp only[cond_true,updE,if_neg hne]
    exact ih
theorem zby {f g:Nat→Bool} {t:Nat}:∀q,(∀j,j<q→zcd ops j=some t→f j=g j)→zaQ ops tr env0 f q t=zaQ ops tr env0 g q t
 |0,_=>rfl
 |q+1,h=>by
  have ih:=zby q (fun j hj=>h j (by omega))
  rw[zaQ,zaQ]
  by_cases hd:zcd ops q=some t
  ·rw[h q (by omega) hd]
   cases g q with
   |false=>simpa using ih
   |true=>simp[updE,hd]
  ·have e:∀b:Bool,∀x:Nat→AV,(bif b then updE (zcd ops q) (spAt tr q).out x else x) t=x t:=fun b x=>by cases b<;>simp[updE,hd]
   rw[e,e,ih]
theorem zeC {k:Nat} {sp:Sp} {H:Nat→Option Blk} {i:Nat} (h1:¬(k≤i∧i<k+sp.frs.length)) (h2:sp.up.any (fun p=>Nat.beq p.1 i)=false):updH k sp H i=H i:=by
 unfold updH
 rw[if_neg h1]
 split
 ·rename_i o ho
  have :=zdn ho
  rw[List.any_eq_false]at h2
  exact absurd (by simp) (h2 _ this)
 ·rfl
theorem zhr {k:Nat} {sp:Sp} {H H':Nat→Option Blk} {i:Nat} (h:¬(k≤i∧i<k+sp.frs.length)→sp.up.lookup i=none→H i=H' i):updH k sp H i=updH k sp H' i:=by
 unfold updH
 split
 ·rfl
 ·rename_i h1
  split
  ·rfl
  ·rename_i h2;exact h h1 h2
theorem zhU {q i:Nat} (h:tou tr q i=false):¬(kAt tr q≤i∧i<kAt tr q+(spAt tr q).frs.length)∧(spAt tr q).up.any (fun p=>Nat.beq p.1 i)=false:=by
 unfold tou inR at h
 simp only[Bool.or_eq_false_iff,Bool.and_eq_false_iff]at h
 refine⟨fun⟨h1,h2⟩=>?_,h.2⟩
 rcases h.1 with h3|h3
 ·have :=zbv.2 h1;rw[this]at h3;cases h3
 ·have :=za2.2 h2;rw[this]at h3;cases h3
theorem zdO {f:Nat→Bool} {i:Nat} (q:Nat):∀m,q≤m→(∀j,q≤j→j<m→tou tr j i=true→f j=false)→hAt tr h0 f m i=hAt tr h0 f q i
 |0,hm,_=>by
  have :q=0:=by omega
  subst this;rfl
 |m+1,hm,h=>by
  rcases Nat.lt_or_ge m q with hq|hq
  ·have :q=m+1:=by omega
   subst this;rfl
  ·have ih:=zdO q m hq (fun j h1 h2=>h j h1 (by omega))
   rw[hAt]
   cases hf:f m with
   |false=>simpa using ih
   |true=>
    have hne:tou tr m i=false:=by
     cases ht:tou tr m i with
     |false=>rfl
     |true=>have :=h m hq (by omega) ht;rw[hf]at this;cases this
    obtain⟨n1,n2⟩:=zhU hne
    simp only[cond_true]
    rw[zeC n1 n2]
    exact ih
theorem zcy {f g:Nat→Bool} {i:Nat}:∀q,(∀j,j<q→tou tr j i=true→f j=g j)→hAt tr h0 f q i=hAt tr h0 g q i
 |0,_=>rfl
 |q+1,h=>by
  have ih:=zcy q (fun j hj=>h j (by omega))
  rw[hAt,hAt]
  cases ht:tou tr q i with
  |true=>
   rw[h q (by omega) ht]
   cases g q with
   |false=>simpa using ih
   |true=>
    simp only[cond_true]
    exact zhr fun _ _=>ih
  |false=>
   obtain⟨n1,n2⟩:=zhU ht
   have e:∀b:Bool,∀x:Nat→Option Blk,(bif b then updH (kAt tr q) (spAt tr q) x else x) i=x i:=fun b x=>by
    cases b
    ·rfl
    ·simp only[cond_true];exact zeC n1 n2
   rw[e,e,ih]
theorem zgV {f f':Nat→Bool} {q n:Nat} (hq:q<n) (hf:f q=false) (hf':f' q=true) (hs:∀j,j≠q→f' j=f j) (ha:∀j,q<j→j<n→f j=true→∀t,zcd ops j=some t→zcd ops q≠some t):
  zaQ ops tr env0 f' n=updE (zcd ops q) (spAt tr q).out (zaQ ops tr env0 f n):=by
 funext t
 have h1:zaQ ops tr env0 f' (q+1)=updE (zcd ops q) (spAt tr q).out (zaQ ops tr env0 f' q):=by rw[zaQ,hf'];rfl
 have h2:zaQ ops tr env0 f (q+1)=zaQ ops tr env0 f q:=by rw[zaQ,hf];rfl
 have h3:zaQ ops tr env0 f' q=zaQ ops tr env0 f q:=by
  funext t;exact zby q fun j hj _=>hs j (by omega)
 by_cases hd:zcd ops q=some t
 ·rw[zcw (q+1) n (by omega) (fun j h4 h5 h6=>by
   cases hj:f' j with
   |false=>rfl
   |true=>exact absurd hd (ha j (by omega) h5 (by rw[←hs j (by omega)];exact hj) t h6)),h1]
  simp[updE,hd]
 ·have e:∀m,q+1≤m→zaQ ops tr env0 f' m t=zaQ ops tr env0 f m t:=by
   intro m hm
   exact zby m fun j _ hj=>hs j (fun e=>hd (e▸hj))
  rw[e n (by omega)]
  simp[updE,hd]
theorem zj1 {f f':Nat→Bool} {q n:Nat} (hq:q<n) (hf:f q=false) (hf':f' q=true) (hs:∀j,j≠q→f' j=f j) (ha:∀j,q<j→j<n→f j=true→∀i,tou tr j i=true→tou tr q i=false):
  hAt tr h0 f' n=updH (kAt tr q) (spAt tr q) (hAt tr h0 f n):=by
 funext i
 have h1:hAt tr h0 f' (q+1)=updH (kAt tr q) (spAt tr q) (hAt tr h0 f' q):=by rw[hAt,hf'];rfl
 have h2:hAt tr h0 f (q+1)=hAt tr h0 f q:=by rw[hAt,hf];rfl
 have h3:hAt tr h0 f' q=hAt tr h0 f q:=by
  funext t;exact zcy q fun j hj _=>hs j (by omega)
 cases ht:tou tr q i with
 |true=>
  have hl:∀(g:Nat→Bool),(∀j,j≠q→g j=f j)→hAt tr h0 g n i=hAt tr h0 g (q+1) i:=fun g hg=>zdO (q+1) n (by omega) (fun j h4 h5 h6=>by
   cases hj:g j with
   |false=>rfl
   |true=>
    have :=ha j (by omega) h5 (by rw[←hg j (by omega)];exact hj) i h6
    rw[ht]at this;cases this)
  rw[hl f' hs,h1,h3]
  refine zhr fun _ _=>?_
  rw[hl f (fun _ _=>rfl),h2]
 |false=>
  obtain⟨n1,n2⟩:=zhU ht
  rw[zeC n1 n2]
  exact zcy n fun j _ hj=>hs j (fun e=>by rw[e,ht]at hj;cases hj)
end
/-! ## The check -/
def bit (B:Array Nat) (j i:Nat):Bool:=(B.getD j 0).testBit i
def zdw (sp:Sp):List Nat:=sp.out.ids++(sp.frs.flatMap Blk.ids++sp.up.flatMap fun p=>match p.2 with |some b=>b.ids|none=>[])
def conf (ops:Array Oper) (tr:List (Nat×Sp)) (oi oj:Oper) (i j:Nat):Bool:=
 (match oi.dst with |some t=>(oj.looksAt ops).contains t || oj.dst == some t|none=>false) ||
 (match oj.dst with |some t=>(oi.looksAt ops).contains t|none=>false) ||
 ((spAt tr j).rd.any fun p=>tou tr i p.1) || ((spAt tr i).rd.any fun p=>tou tr j p.1) ||
 ((spAt tr j).up.any fun p=>tou tr i p.1)
def zhA (ops:Array Oper) (B:Array Nat) (tr:List (Nat×Sp)) (oj:Oper) (j i:Nat):Bool:=
 Nat.ble (kAt tr i+(spAt tr i).frs.length) (kAt tr j) &&
 (!(match ops[i]? with |some oi=>conf ops tr oi oj i j|none=>true) || bit B j i) &&
 (!bit B j i || oj.after.any fun e=>Region.binds .any e && Nat.blt e.on j && (Nat.beq e.on i || (Nat.blt i e.on && bit B e.on i))) &&
 (!((zdw (spAt tr j)).any fun x=>inR tr i x) || bit B j i)
def zjL (ops:Array Oper) (B:Array Nat) (nx0:Nat) (tr:List (Nat×Sp)) (j:Nat):Bool:=
 match ops[j]? with
 |none=>false
 |some oj=>
  (oj.after.all fun e=> !Region.binds .any e || Nat.blt e.on j) && Nat.ble nx0 (kAt tr j) &&
  ((zdw (spAt tr j)).all fun x=>Nat.blt x nx0 || (List.range (j+1)).any fun i=>inR tr i x) &&
  (List.range j).all fun i=>zhA ops B tr oj j i
def zfL (ops:Array Oper) (nx0:Nat) (tr:List (Nat×Sp)):Bool:=
 Nat.beq tr.length ops.size && (List.range ops.size).all fun j=>zjL ops (Region.before ops) nx0 tr j
theorem zj5 {a b:Bool} (h:(!a || b)=true):a=true→b=true:=by cases a<;>simp_all
section
variable {ops:Array Oper} {B:Array Nat} {nx0:Nat} {tr:List (Nat×Sp)}
structure Chk (ops:Array Oper) (B:Array Nat) (nx0:Nat) (tr:List (Nat×Sp)) (j:Nat) (oj:Oper):Prop where
 back:∀e∈oj.after,Region.binds .any e=true→e.on<j
 nx:nx0≤kAt tr j
 ids:∀x∈zdw (spAt tr j),x<nx0∨∃i,i≤j∧inR tr i x=true
 rng:∀i,i<j→kAt tr i+(spAt tr i).frs.length≤kAt tr j
 conf:∀i oi,i<j→ops[i]? =some oi→conf ops tr oi oj i j=true→bit B j i=true
 cert:∀i,i<j→bit B j i=true→∃e∈oj.after,Region.binds .any e=true∧e.on<j∧(e.on=i∨(i<e.on∧bit B e.on i=true))
 idb:∀i x,i<j→x∈zdw (spAt tr j)→inR tr i x=true→bit B j i=true
theorem zmv {j:Nat} {oj:Oper} (h:zjL ops B nx0 tr j=true) (hj:ops[j]? =some oj):Chk ops B nx0 tr j oj:=by
 unfold zjL at h
 rw[hj]at h
 simp only[Bool.and_eq_true,List.all_eq_true]at h
 obtain⟨⟨⟨h1,h2⟩,h3⟩,h4⟩:=h
 have h4':∀i,i<j→zhA ops B tr oj j i=true:=fun i hi=>h4 i (by simpa using hi)
 unfold zhA at h4'
 simp only[Bool.and_eq_true]at h4'
 refine⟨fun e he hb=>?_,zbv.1 h2,fun x hx=>?_,fun i hi=>zbv.1 (h4' i hi).1.1.1,fun i oi hi ho hc=>?_,fun i hi hb=>?_,fun i x hi hx hr=>?_⟩
 ·rw[Array.all_eq_true_iff_forall_mem]at h1
  have :=h1 e he
  rw[hb]at this
  simpa using this
 ·have :=h3 x hx
  rw[Bool.or_eq_true,List.any_eq_true]at this
  rcases this with h|⟨i,hi,hr⟩
  ·exact .inl (za2.1 h)
  ·exact .inr ⟨i,by have :=List.mem_range.1 hi;omega,hr⟩
 ·have :=zj5 (h4' i hi).1.1.2
  rw[ho]at this
  exact this hc
 ·have :=zj5 (h4' i hi).1.2 hb
  rw[Array.any_eq_true']at this
  obtain⟨e,he,hx⟩:=this
  simp only[Bool.and_eq_true,Bool.or_eq_true]at hx
  exact⟨e,he,hx.1.1,za2.1 hx.1.2,hx.2.imp (fun h=>Nat.eq_of_beq_eq_true h) (fun h=>⟨za2.1 h.1,h.2⟩)⟩
 ·exact zj5 (h4' i hi).2 (List.any_eq_true.2 ⟨x,hx,hr⟩)
end
/-! ## From the walk in the order of the text to any order -/
structure Text (P:Program) (L:Ln) (N:Nat) (ops:Array Oper) (chk:List (Nat×Sp)→Bool) (Q:St→Prop) (env0:Nat→AV) (h0:Nat→Option Blk) (p lo:Nat) (pre tr:List (Nat×Sp)):Prop where
 len:tr.length=ops.size
 pre:tr.take p=pre
 chk:chk tr=true
 steps:∀q o,p≤q→ops[q]? =some o→StepA P L N ops o (zaQ ops tr env0 all_ q) (hAt tr h0 all_ q) (kAt tr q) (spAt tr q)
 last:∃S,Q S∧S.envF=zaQ ops tr env0 all_ ops.size∧S.HF=hAt tr h0 all_ ops.size∧(∀q,p≤q→q<ops.size→kAt tr q+(spAt tr q).frs.length≤S.nx)∧lo≤S.nx
theorem text_of {P:Program} {L:Ln} {N:Nat} {ops:Array Oper} {chk:List (Nat×Sp)→Bool} {Q:St→Prop} {env0:Nat→AV} {h0:Nat→Option Blk}:∀(l:List Oper) (p:Nat) (S:St) (pre:List (Nat×Sp)),l=ops.toList.drop p→pre.length=p→p≤ops.size→
  (∀tr:List (Nat×Sp),tr.take p=pre.reverse→zaQ ops tr env0 all_ p=S.envF∧hAt tr h0 all_ p=S.HF)→wpA P L N ops chk Q l S pre→∃tr,Text P L N ops chk Q env0 h0 p S.nx pre.reverse tr∧∀q,p≤q→q<ops.size→S.nx≤kAt tr q
 |[],p,S,pre,hl,hp,hps,hE,h=>by
  have hn:p=ops.size:=by
   have :=congrArg List.length hl
   simp at this
   omega
  have ht:pre.reverse.take p=pre.reverse:=List.take_of_length_le (by simp[hp])
  obtain⟨e1,e2⟩:=hE pre.reverse ht
  refine⟨pre.reverse,⟨by simp[hp,hn],ht,h.1,fun q o hq ho=>?_,S,h.2,by rw[←hn];exact e1.symm,by rw[←hn];exact e2.symm,fun q h1 h2=>by omega,Nat.le_refl _⟩,fun q h1 h2=>by omega⟩
  have :q<ops.size:=by
   rcases Nat.lt_or_ge q ops.size with h'|h'
   ·exact h'
   ·rw[Array.getElem?_eq_none h']at ho;cases ho
  omega
 |o::l,p,S,pre,hl,hp,hps,hE,⟨sp,h1,h2⟩=>by
  have hlt:p<ops.size:=by
   have :=congrArg List.length hl
   simp at this
   omega
  have ho:ops[p]? =some o:=by
   have h3:(ops.toList.drop p)[0]? =some o:=by rw[←hl];rfl
   simpa using h3
  have hl':l=ops.toList.drop (p+1):=by
   have h3:(ops.toList.drop p).drop 1=l:=by rw[←hl];rfl
   rw[←h3,List.drop_drop]
  have hk:∀tr:List (Nat×Sp),tr.take (p+1)=((S.nx,sp)::pre).reverse→tr.take p=pre.reverse∧kAt tr p=S.nx∧spAt tr p=sp:=by
   intro tr ht
   rw[List.reverse_cons]at ht
   have e1:tr.take p=pre.reverse:=by
    have :=congrArg (List.take p) ht
    rw[List.take_take,Nat.min_eq_left (by omega),List.take_append_of_le_length (by simp[hp]),List.take_of_length_le (l:=pre.reverse) (by simp[hp])]at this
    exact this
   have e2:tr[p]? =some (S.nx,sp):=by
    have h4:(tr.take (p+1))[p]? =some (S.nx,sp):=by
     rw[ht,List.getElem?_append_right (by simp[hp])]
     simp[hp]
    rw[List.getElem?_take]at h4
    rwa [if_pos (by omega)]at h4
   exact⟨e1,by simp[kAt,e2],by simp[spAt,e2]⟩
  obtain⟨tr,T,hnx⟩:=text_of l (p+1) (S.app o.dst sp) ((S.nx,sp)::pre) hl' (by simp[hp]) hlt (fun tr ht=>by
   obtain⟨e1,e2,e3⟩:=hk tr ht
   obtain⟨e4,e5⟩:=hE tr e1
   rw[zaQ,hAt,e2,e3,zf7,zlh,e4,e5]
   have e6:zcd ops p=o.dst:=by simp[zcd,ho]
   rw[e6]
   exact⟨rfl,rfl⟩) h2
  obtain⟨e1,e2,e3⟩:=hk tr T.pre
  obtain⟨e4,e5⟩:=hE tr e1
  have hsub:S.nx≤(S.app o.dst sp).nx:=Nat.le_add_right _ _
  refine⟨tr,⟨T.len,e1,T.chk,fun q o' hq ho'=>?_,?_⟩,fun q hq hq2=>?_⟩
  ·rcases Nat.lt_or_ge p q with h|h
   ·exact T.steps q o' h ho'
   ·have :q=p:=by omega
    subst this
    rw[ho]at ho'
    injection ho' with ho'
    subst ho'
    rw[e2,e3,e4,e5]
    exact h1
  ·obtain⟨Sn,f1,f2,f3,f4,f5⟩:=T.last
   refine⟨Sn,f1,f2,f3,fun q hq hq2=>?_,Nat.le_trans hsub f5⟩
   rcases Nat.lt_or_ge p q with h|h
   ·exact f4 q h hq2
   ·have :q=p:=by omega
    subst this
    rw[e2,e3]
    exact f5
  ·rcases Nat.lt_or_ge p q with h|h
   ·exact Nat.le_trans hsub (hnx q h hq2)
   ·have :q=p:=by omega
    subst this
    rw[e2]
    exact Nat.le_refl _
theorem zcr {ops:Array Oper} {B:Array Nat} {nx0:Nat} {tr:List (Nat×Sp)} {f:Nat→Bool} (hC:∀j oj,ops[j]? =some oj→Chk ops B nx0 tr j oj)
  (hdc:∀j oj,ops[j]? =some oj→f j=true→∀e∈oj.after,Region.binds .any e=true→f e.on=true):∀(m j:Nat) (oj:Oper),j≤m→ops[j]? =some oj→(∀e∈oj.after,Region.binds .any e=true→f e.on=true)→∀i,i<j→bit B j i=true→f i=true
 |0,j,oj,hj,ho,he,i,hi,hb=>by omega
 |m+1,j,oj,hj,ho,he,i,hi,hb=>by
  obtain⟨e,he1,he2,he3,he4⟩:=(hC j oj ho).cert i hi hb
  have hf:=he e he1 he2
  rcases he4 with rfl|he4
  ·exact hf
  ·have hlt:e.on<ops.size:=by
    have :j<ops.size:=by
     rcases Nat.lt_or_ge j ops.size with h'|h'
     ·exact h'
     ·rw[Array.getElem?_eq_none h']at ho;cases ho
    omega
   have ho':ops[e.on]? =some ops[e.on]:=Array.getElem?_eq_getElem hlt
   exact zcr hC hdc m e.on _ (by omega) ho' (fun e' h1 h2=>hdc e.on _ ho' hf e' h1 h2) i he4.1 he4.2
theorem OpOk.congr {P:Program} {o:Oper} {env env':Nat→AV} {k:Nat} {sp:Sp} (h:OpOk P o env k sp) (he:∀t,Operand.tmp t∈o.op.operands.toList→env' t=env t):OpOk P o env' k sp:=by
 intro a w Z M h1 h2 h3 h4
 refine h a w Z M h1 (fun x hx=>?_) h3 h4
 have :=h2 x hx
 cases x with
 |tmp t=>simp only[evA]at this ⊢;rwa [he t hx]at this
 |const v=>exact this
 |global g=>exact this
 |func f=>exact this
def cntF (f:Nat→Bool):Nat→Nat
 |0=>0
 |n+1=>cntF f n+bif f n then 0 else 1
theorem zgU {f g:Nat→Bool}:∀n,(∀j,j<n→f j=g j)→cntF f n=cntF g n
 |0,_=>rfl
 |n+1,h=>by rw[cntF,cntF,zgU n fun j hj=>h j (by omega),h n (by omega)]
theorem zgc {f f':Nat→Bool} {q:Nat} (hf:f q=false) (hf':f' q=true) (hs:∀j,j≠q→f' j=f j):∀n,q<n→cntF f n=cntF f' n+1
 |0,h=>by omega
 |n+1,h=>by
  rcases Nat.lt_or_ge q n with hq|hq
  ·rw[cntF,cntF,zgc hf hf' hs n hq,hs n (by omega)];omega
  ·have :q=n:=by omega
   subst this
   rw[cntF,cntF,hf,hf',zgU q fun j hj=>hs j (by omega)]
   rfl
theorem zfa {f:Nat→Bool}:∀n,cntF f n=0→∀j,j<n→f j=true
 |0,_,j,hj=>by omega
 |n+1,h,j,hj=>by
  rw[cntF]at h
  rcases Nat.lt_or_ge j n with hq|hq
  ·exact zfa n (by omega) j hq
  ·have :j=n:=by omega
   subst this
   cases hf:f j with
   |true=>rfl
   |false=>rw[hf]at h;simp at h
section
variable {P:Program} {ops:Array Oper} {B:Array Nat} {nx0:Nat} {tr:List (Nat×Sp)} {C:Cx} {env0:Nat→AV} {h0:Nat→Option Blk}
theorem zbz {q i:Nat}:inR tr q i=true↔kAt tr q≤i∧i<kAt tr q+(spAt tr q).frs.length:=by
 unfold inR;rw[Bool.and_eq_true,zbv,za2]
theorem zcg {o:Oper} {q:Nat} (h:ops[q]? =some o):q<ops.size:=by
 rcases Nat.lt_or_ge q ops.size with h'|h'
 ·exact h'
 ·rw[Array.getElem?_eq_none h']at h;cases h
theorem zeY {L:Ln} {N:Nat} (hC:∀j oj,ops[j]? =some oj→Chk ops B nx0 tr j oj) (hT:∀q o,ops[q]? =some o→StepA P L N ops o (zaQ ops tr env0 all_ q) (hAt tr h0 all_ q) (kAt tr q) (spAt tr q))
  (he:∀t,∀i∈(env0 t).ids,i<nx0) (hh:∀i b,h0 i=some b→i<nx0∧∀j∈b.ids,j<nx0):∀q,q≤ops.size→∀K,nx0≤K→(∀j,j<q→kAt tr j+(spAt tr j).frs.length≤K)→
  (∀t,∀i∈(zaQ ops tr env0 all_ q t).ids,i<K)∧(∀i b,hAt tr h0 all_ q i=some b→i<K∧∀j∈b.ids,j<K)
 |0,_,K,hK,_=>⟨fun t i hi=>Nat.lt_of_lt_of_le (he t i hi) hK,fun i b hb=>⟨Nat.lt_of_lt_of_le (hh i b hb).1 hK,fun j hj=>Nat.lt_of_lt_of_le ((hh i b hb).2 j hj) hK⟩⟩
 |q+1,hq,K,hK,hj=>by
  have hlt:q<ops.size:=hq
  have ho:ops[q]? =some ops[q]:=Array.getElem?_eq_getElem hlt
  have hc:=hC q _ ho
  obtain⟨i1,i2⟩:=zeY hC hT he hh q (by omega) K hK (fun j h=>hj j (by omega))
  obtain⟨i3,i4⟩:=zeY hC hT he hh q (by omega) (kAt tr q) hc.nx (fun j h=>hc.rng j h)
  have hids:∀x∈zdw (spAt tr q),x<K:=by
   intro x hx
   rcases hc.ids x hx with h|⟨i,h1,h2⟩
   ·omega
   ·have :=(zbz.1 h2).2
    have :=hj i (by omega)
    omega
  have hsp:=(hT q _ ho).sp (fun i=>i<kAt tr q) i3 i4 (fun i hi=>.inl hi)
  refine⟨fun t i hi=>?_,fun i b hb=>?_⟩
  ·rw[zaQ]at hi
   simp only[all_,cond_true,updE]at hi
   split at hi
   ·exact hids i (by unfold zdw;exact List.mem_append_left _ hi)
   ·exact i1 t i hi
  ·rw[hAt]at hb
   simp only[all_,cond_true,updH]at hb
   split at hb
   ·rename_i hr
    refine⟨by have :=hj q (by omega);omega,fun j hjb=>hids j ?_⟩
    unfold zdw
    exact List.mem_append_right _ (List.mem_append_left _ (List.mem_flatMap.2 ⟨b,List.mem_of_getElem? hb,hjb⟩))
   ·split at hb
    ·rename_i o hl
     subst hb
     have hm:=zdn hl
     obtain⟨c,hcb⟩:=hsp.up i _ hm
     refine⟨(i2 i c (hsp.rd i c hcb)).1,fun j hjb=>hids j ?_⟩
     unfold zdw
     exact List.mem_append_right _ (List.mem_append_right _ (List.mem_flatMap.2 ⟨_,hm,hjb⟩))
    ·exact i2 i b hb
def Df (ops:Array Oper) (nx0:Nat) (tr:List (Nat×Sp)) (f:Nat→Bool) (i:Nat):Prop:=i<nx0∨∃q,q<ops.size∧f q=true∧inR tr q i=true
theorem zgI {Q':Exit→Act→World→Prop} (hP:C.P=P) (hC:∀j oj,ops[j]? =some oj→Chk ops B nx0 tr j oj) (hT:∀q o,ops[q]? =some o→StepA P C.ln C.N ops o (zaQ ops tr env0 all_ q) (hAt tr h0 all_ q) (kAt tr q) (spAt tr q))
  (he:∀t,∀i∈(env0 t).ids,i<nx0) (hh:∀i b,h0 i=some b→i<nx0∧∀j∈b.ids,j<nx0)
  (hQ:∀Z a w,SimF C (Df ops nx0 tr all_) (zaQ ops tr env0 all_ ops.size) (hAt tr h0 all_ ops.size) Z a w→Q' .normal a w):∀(fuel:Nat) (listed:Array Bool) (a:Act) (w:World),listed.size=ops.size→cntF (fun q=>listed.getD q false) ops.size=fuel→
  (∀j oj,ops[j]? =some oj→listed.getD j false=true→∀e∈oj.after,Region.binds .any e=true→listed.getD e.on false=true)→
  (∃Z,SimF C (Df ops nx0 tr fun q=>listed.getD q false) (zaQ ops tr env0 (fun q=>listed.getD q false) ops.size) (hAt tr h0 (fun q=>listed.getD q false) ops.size) Z a w)→wpAny P .any ops Q' fuel listed a w:=by
 have hend:∀(listed:Array Bool) (a:Act) (w:World),(∀j,j<ops.size→listed.getD j false=true)→
   (∃Z,SimF C (Df ops nx0 tr fun q=>listed.getD q false) (zaQ ops tr env0 (fun q=>listed.getD q false) ops.size) (hAt tr h0 (fun q=>listed.getD q false) ops.size) Z a w)→Q' .normal a w:=by
  rintro listed a w hall ⟨Z,S⟩
  have e1:zaQ ops tr env0 (fun q=>listed.getD q false) ops.size=zaQ ops tr env0 all_ ops.size:=by
   funext t;exact zby _ fun j hj _=>hall j hj
  have e2:hAt tr h0 (fun q=>listed.getD q false) ops.size=hAt tr h0 all_ ops.size:=by
   funext t;exact zcy _ fun j hj _=>hall j hj
  rw[e1,e2]at S
  exact hQ Z a w (S.monoD fun i hi=>hi.imp id fun⟨q,h1,_,h3⟩=>⟨q,h1,rfl,h3⟩)
 intro fuel
 induction fuel with
 |zero=>
  intro listed a w hsz hcnt hdc hS
  have hall:=zfa _ hcnt
  refine⟨?_,hend listed a w hall hS⟩
  rw[List.eq_nil_iff_forall_not_mem]
  intro j hj
  obtain⟨h1,o,ho,_⟩:=mem_ready.1 hj
  have h2:=hall j (zcg ho)
  have hj':j<listed.size:=by rw[hsz];exact zcg ho
  simp[hj']at h1 h2
  rw[h1]at h2;cases h2
 |succ fuel ih=>
  intro listed a w hsz hcnt hdc hS
  refine⟨fun hr=>hend listed a w ?_ hS,fun q hq=>?_⟩
  ·intro j hj
   induction j using Nat.strongRecOn with
   |_ j ihj=>
    cases hl:listed.getD j false with
    |true=>rfl
    |false=>
     exfalso
     have ho:ops[j]? =some ops[j]:=Array.getElem?_eq_getElem hj
     have hm:j∈Region.ready .any ops listed:=mem_ready.2 ⟨by
      have hj':j<listed.size:=by omega
      simpa[hj']using hl,_,ho,fun e h1 h2=>by
       have :=(hC j _ ho).back e h1 h2
       exact ihj e.on this (by omega)⟩
     rw[hr]at hm
     cases hm
  ·obtain⟨hq1,o,ho,hedge⟩:=mem_ready.1 hq
   have hqs:=zcg ho
   have hfq:listed.getD q false=false:=by
    have hj':q<listed.size:=by omega
    simpa[hj']using hq1
   obtain⟨Z,S⟩:=hS
   have hc:=hC q o ho
   have hst:=hT q o ho
   generalize hf:(fun q=>listed.getD q false)=f at *
   have hfe:∀j,listed.getD j false=f j:=fun j=>by rw[←hf]
   simp only[hfe]at hfq hdc hedge
   -- those before it that matter have been carried out;those behind it that matter have not
   have hbef:∀i,i<q→bit B q i=true→f i=true:=zcr hC hdc q q o (Nat.le_refl _) ho hedge
   have haft:∀j oj,q<j→ops[j]? =some oj→bit B j q=true→f j=false:=by
    intro j oj hqj hoj hb
    cases hfj:f j with
    |false=>rfl
    |true=>
     have :=zcr hC hdc j j oj (Nat.le_refl _) hoj (fun e h1 h2=>hdc j oj hoj hfj e h1 h2) q hqj hb
     rw[hfq]at this;cases this
   have hcl:∀i oi,i<q→ops[i]? =some oi→conf ops tr oi o i q=true→f i=true:=fun i oi h1 h2 h3=>hbef i h1 (hc.conf i oi h1 h2 h3)
   have hca:∀j oj,q<j→ops[j]? =some oj→conf ops tr o oj q j=true→f j=false:=fun j oj h1 h2 h3=>haft j oj h1 h2 ((hC j oj h2).conf q o h1 ho h3)
   have hdst:∀{j oj t},ops[j]? =some oj→(zcd ops j=some t↔oj.dst=some t):=fun {j oj t} h=>by simp[zcd,h]
   have henv:∀t,t∈o.looksAt ops→zaQ ops tr env0 f ops.size t=zaQ ops tr env0 all_ q t:=by
    intro t ht
    rw[zcw q ops.size (by omega) (fun j h1 h2 h3=>?_)]
    ·refine zby q fun j hj hd=>?_
     have hoj:ops[j]? =some ops[j]:=Array.getElem?_eq_getElem (by omega)
     refine hcl j _ hj hoj ?_
     unfold conf
     rw[(hdst hoj).1 hd]
     simp[ht]
    ·rcases Nat.lt_or_ge q j with hqj|hqj
     ·have hoj:ops[j]? =some ops[j]:=Array.getElem?_eq_getElem h2
      refine hca j _ hqj hoj ?_
      unfold conf
      rw[(hdst hoj).1 h3]
      simp[ht]
     ·have :j=q:=by omega
      subst this;exact hfq
   obtain⟨i3,i4⟩:=zeY hC hT he hh q (by omega) (kAt tr q) hc.nx (fun j h=>hc.rng j h)
   have hsp:=hst.sp (fun i=>i<kAt tr q) i3 i4 (fun i hi=>.inl hi)
   have hH:∀i b,(i,b)∈(spAt tr q).rd→hAt tr h0 f ops.size i=hAt tr h0 all_ q i:=by
    intro i b hib
    rw[zdO q ops.size (by omega) (fun j h1 h2 h3=>?_)]
    ·refine zcy q fun j hj hd=>?_
     have hoj:ops[j]? =some ops[j]:=Array.getElem?_eq_getElem (by omega)
     refine hcl j _ hj hoj ?_
     unfold conf
     have :((spAt tr q).rd.any fun p=>tou tr j p.1)=true:=List.any_eq_true.2 ⟨_,hib,hd⟩
     simp[this]
    ·rcases Nat.lt_or_ge q j with hqj|hqj
     ·have hoj:ops[j]? =some ops[j]:=Array.getElem?_eq_getElem h2
      refine hca j _ hqj hoj ?_
      unfold conf
      have :((spAt tr q).rd.any fun p=>tou tr j p.1)=true:=List.any_eq_true.2 ⟨_,hib,h3⟩
      simp[this]
     ·have :j=q:=by omega
      subst this;exact hfq
   have hids:∀x∈zdw (spAt tr q),Df ops nx0 tr f x∨(kAt tr q≤x∧x<kAt tr q+(spAt tr q).frs.length):=by
    intro x hx
    rcases hc.ids x hx with h|⟨i,h1,h2⟩
    ·exact .inl (.inl h)
    ·rcases Nat.lt_or_ge i q with h3|h3
     ·exact .inl (.inr ⟨i,by omega,hbef i h3 (hc.idb i x h3 hx h2),h2⟩)
     ·have :i=q:=by omega
      subst this
      exact .inr (zbz.1 h2)
   have hsp':SpOk C.ln (Df ops nx0 tr f) (hAt tr h0 f ops.size) (kAt tr q) (spAt tr q):=by
    refine⟨fun i b hib=>(hH i b hib).trans (hsp.rd i b hib),hsp.up,hsp.nd,hsp.loc,fun i hi=>?_,fun i hi=>hids i ?_,fun b hb i hi=>hids i ?_,fun j b hjb i hi=>hids i ?_⟩
    ·rcases hi with h|⟨j,hj,hfj,hr⟩
     ·exact .inl (Nat.lt_of_lt_of_le h hc.nx)
     ·have hr':=zbz.1 hr
      rcases Nat.lt_trichotomy j q with h|h|h
      ·have :=hc.rng j h;exact .inl (by omega)
      ·subst h;rw[hfq]at hfj;cases hfj
      ·have hoj:ops[j]? =some ops[j]:=Array.getElem?_eq_getElem hj
       have :=(hC j _ hoj).rng q h
       exact .inr (by omega)
    ·unfold zdw;exact List.mem_append_left _ hi
    ·unfold zdw;exact List.mem_append_right _ (List.mem_append_left _ (List.mem_flatMap.2 ⟨b,hb,hi⟩))
    ·unfold zdw;exact List.mem_append_right _ (List.mem_append_right _ (List.mem_flatMap.2 ⟨_,hjb,hi⟩))
   have hwant:za3 ops (zaQ ops tr env0 f ops.size) o (spAt tr q).run:=by
    rcases hst.want with h|⟨j,want,t,x,h1,h2,h3,h4⟩|⟨j,want,t,h1,h2,h3,h4⟩
    ·exact .inl h
    ·refine .inr (.inl ⟨j,want,t,x,h1,h2,?_,h4⟩)
     rw[henv t ?_]
     ·exact h3
     ·unfold Oper.looksAt
      rw[h1]
      refine List.mem_append_right _ ?_
      simp[h2]
    ·refine .inr (.inr ⟨j,want,t,h1,h2,?_,h4⟩)
     rw[henv t ?_]
     ·exact h3
     ·unfold Oper.looksAt
      rw[h1]
      refine List.mem_append_right _ ?_
      simp[h2]
   have hkeepf:∀j,(listed.setIfInBounds q true).getD j false=if j=q then true else f j:=by
    intro j
    by_cases hjq:j=q
    ·subst hjq
     have :j<listed.size:=by omega
     simp[this]
    ·rw[if_neg hjq,←hfe]
     simp[Array.getElem?_setIfInBounds_ne (Ne.symm hjq)]
   unfold wpOp
   rw[ho]
   simp only
   refine S.oper (k:=kAt tr q) (sp:=spAt tr q) hP rfl hst.dst hwant (fun hr=>(hst.ok hr).congr fun t ht=>henv t ?_) hst.skip hsp' fun Z' a' w' S'=>?_
   ·unfold Oper.looksAt
    exact List.mem_append_left _ (List.mem_filterMap.2 ⟨_,ht,rfl⟩)
   ·refine ih _ a' w' (by simpa using hsz) ?_ ?_ ⟨Z',?_⟩
    ·have :=zgc (f:=f) (f':=fun j=>(listed.setIfInBounds q true).getD j false) (q:=q) hfq (by simp[hkeepf]) (fun j hj=>by simp[hkeepf,hj]) ops.size hqs
     omega
    ·intro j oj hoj hfj e h1 h2
     rw[hkeepf]at hfj ⊢
     split
     ·rfl
     ·split at hfj
      ·rename_i hjq
       subst hjq
       rw[ho]at hoj
       injection hoj with hoj
       subst hoj
       exact hedge e h1 h2
      ·exact hdc j oj hoj hfj e h1 h2
    ·have e1:=zgV (ops:=ops) (tr:=tr) (env0:=env0) (f:=f) (f':=fun j=>(listed.setIfInBounds q true).getD j false) hqs hfq (by simp[hkeepf]) (fun j hj=>by simp[hkeepf,hj]) (fun j h1 h2 h3 t h4 h5=>by
      have hoj:ops[j]? =some ops[j]:=Array.getElem?_eq_getElem h2
      have :f j=false:=hca j _ h1 hoj (by
       unfold conf
       rw[(hdst ho).1 h5,(hdst hoj).1 h4]
       simp)
      rw[h3]at this;cases this)
     have e2:=zj1 (tr:=tr) (h0:=h0) (f:=f) (f':=fun j=>(listed.setIfInBounds q true).getD j false) hqs hfq (by simp[hkeepf]) (fun j hj=>by simp[hkeepf,hj]) (fun j h1 h2 h3 i h4=>by
      have hoj:ops[j]? =some ops[j]:=Array.getElem?_eq_getElem h2
      cases htq:tou tr q i with
      |false=>rfl
      |true=>
       exfalso
       have hrng:=(hC j _ hoj).rng q h1
       unfold tou at h4
       rw[Bool.or_eq_true]at h4
       rcases h4 with h4|h4
       ·have h5:=zbz.1 h4
        unfold tou at htq
        rw[Bool.or_eq_true]at htq
        rcases htq with h6|h6
        ·have :=zbz.1 h6;omega
        ·obtain⟨p,hp,hpi⟩:=List.any_eq_true.1 h6
         have hpi':=Nat.eq_of_beq_eq_true hpi
         obtain⟨c,hcb⟩:=hsp.up p.1 p.2 hp
         have :=(i4 p.1 c (hsp.rd _ _ hcb)).1
         omega
       ·obtain⟨p,hp,hpi⟩:=List.any_eq_true.1 h4
        have hpi':=Nat.eq_of_beq_eq_true hpi
        have :f j=false:=hca j _ h1 hoj (by
         unfold conf
         have :((spAt tr j).up.any fun p=>tou tr q p.1)=true:=List.any_eq_true.2 ⟨p,hp,by rw[hpi'];exact htq⟩
         simp[this])
        rw[h3]at this;cases this)
     rw[e1,e2]
     have ed:zcd ops q=o.dst:=by simp[zcd,ho]
     rw[ed]
     refine S'.monoD fun i hi=>?_
     rcases hi with(h|⟨j,h1,h2,h3⟩)|h
     ·exact .inl h
     ·exact .inr ⟨j,h1,by show(listed.setIfInBounds q true).getD j false=true;rw[hkeepf];split <;>first|rfl|exact h2,h3⟩
     ·exact .inr ⟨q,hqs,by show(listed.setIfInBounds q true).getD q false=true;rw[hkeepf,if_pos rfl],zbz.2 h⟩
end
theorem SimF.world {C:Cx} {D:Nat→Prop} {env:Nat→AV} {H:Nat→Option Blk} {Z:Nat→Value} {a:Act} {w w':World} (S:SimF C D env H Z a w) (h:Below w.heap.size w w'):SimF C D env H Z a w':=
 ⟨S.size,S.defers,S.frame.trans (Upto.of_below h),S.m0,fun t=>AV.rep_mono (Upto.of_below h) (fun _ _ hb=>hb) _ (fun _ _=>rfl) _ (S.slots t),S.ids,
  fun i b hb=>⟨(S.holds i b hb).1.keep (Upto.of_below h) (fun _ _ hb=>hb) rfl (fun _ _=>rfl) (fun x hx=>h.block x ((S.holds i b hb).1.lt hx)),(S.holds i b hb).2⟩,S.dist,S.fresh,S.lm,S.zl⟩
theorem Sim.world {C:Cx} {S:St} {a:Act} {w w':World} (h:Sim C S a w) (hb:Below w.heap.size w w'):Sim C S a w':=h.imp fun _ h=>h.world hb
theorem zia {P:Program} {id:Nat} {ops:Array Oper} {S:St} {a:Act} {w:World} {Q:St→Prop} {Q':Exit→Act→World→Prop} {C:Cx} (hP:C.P=P) (hm:P.follows .mixedOrders=true) (h:wpA P C.ln C.N ops (zfL ops S.nx) Q ops.toList S []) (hs:Sim C S a w)
  (hQ:∀S a w,Q S→Sim C S a w→Q' .normal a w):(Code.region id ops true).wp P Q' a w:=by
 refine wp_region_any hm ?_
 obtain⟨Z,hs⟩:=hs
 obtain⟨tr,T,_⟩:=text_of (env0:=S.envF) (h0:=S.HF) ops.toList 0 S [] rfl rfl (Nat.zero_le _) (fun tr _=>⟨rfl,rfl⟩) h
 have hck:=T.chk
 unfold zfL at hck
 rw[Bool.and_eq_true,List.all_eq_true]at hck
 have hC:∀j oj,ops[j]? =some oj→Chk ops (Region.before ops) S.nx tr j oj:=fun j oj hj=>zmv (hck.2 j (by simpa using zcg hj)) hj
 obtain⟨Sn,f1,f2,f3,f4,f5⟩:=T.last
 refine zgI hP hC (fun q o ho=>T.steps q o (Nat.zero_le _) ho) hs.ids (fun i b hb=>(hs.holds i b hb).2) (fun Z a w hS=>hQ Sn a w f1 ⟨Z,?_⟩) ops.size _ a _ (by simp) ?_ ?_ ⟨Z,?_⟩
 ·rw[f2,f3]
  refine hS.monoD fun i hi=>?_
  rcases hi with h|⟨q,h1,_,h3⟩
  ·omega
  ·have :=(zbz.1 h3).2
   have :=f4 q (Nat.zero_le _) h1
   omega
 ·have :∀n,n≤ops.size→cntF (fun q=>(Array.replicate ops.size false).getD q false) n=n:=by
   intro n
   induction n with
   |zero=>intro _;rfl
   |succ n ih=>
    intro hn
    rw[cntF,ih (by omega)]
    have :(Array.replicate ops.size false).getD n false=false:=by
     have h0:n<ops.size:=hn
     simp[h0]
    rw[this]
    rfl
  exact this _ (Nat.le_refl _)
 ·intro j oj hj hl
  have h0:j<ops.size:=zcg hj
  simp[h0]at hl
 ·have e1:∀n,zaQ ops tr S.envF (fun q=>(Array.replicate ops.size false).getD q false) n=S.envF:=by
   intro n
   induction n with
   |zero=>rfl
   |succ n ih=>
    rw[zaQ,ih]
    have :(Array.replicate ops.size false).getD n false=false:=by
     by_cases h0:n<ops.size<;>simp[h0]
    rw[this]
    rfl
  have e2:∀n,hAt tr S.HF (fun q=>(Array.replicate ops.size false).getD q false) n=S.HF:=by
   intro n
   induction n with
   |zero=>rfl
   |succ n ih=>
    rw[hAt,ih]
    have :(Array.replicate ops.size false).getD n false=false:=by
     by_cases h0:n<ops.size<;>simp[h0]
    rw[this]
    rfl
  rw[e1,e2]
  exact(hs.world (Below.refl _ _).drew).monoD fun i hi=>.inl hi
def awp (P:Program) (L:Ln) (N:Nat) (c:Code) (Q:Exit→St→Prop) (S:St):Prop:=
 ∀(C:Cx),C.P=P→C.ln=L→C.N=N→∀a w,Sim C S a w→c.wp P (fun e a' w'=>∃S',Q e S'∧Sim C S' a' w') a w
def zmi (next :St→Prop) (Q:Exit→St→Prop):Exit→St→Prop
 |.normal,S=>next S
 |e,S=>Q e S
def zgP (id:Nat) (Q:Exit→St→Prop):Exit→St→Prop
 |.exit id',S=>bif Nat.beq id' id then Q .normal S else Q (.exit id') S
 |e,S=>Q e S
section
variable {P:Program} {L:Ln} {N:Nat} {Q:Exit→St→Prop} {S:St}
theorem zlj {c:Code} {Q':Exit→St→Prop} (h:awp P L N c Q S) (hq:∀e S,Q e S→Q' e S):awp P L N c Q' S:=
 fun C h1 h2 h3 a w hs=>Code.wp_mono (fun e a' w' ⟨S',h4,h5⟩=>⟨S',hq e S' h4,h5⟩) (h C h1 h2 h3 a w hs)
theorem zeb {x y:Code} (h:awp P L N x (zmi (awp P L N y Q) Q) S):awp P L N (.seq x y) Q S:=by
 intro C h1 h2 h3 a w hs
 refine wp_seq (Code.wp_mono (fun e a' w' ⟨S',h4,h5⟩=>?_) (h C h1 h2 h3 a w hs))
 cases e with
 |normal=>exact h4 C h1 h2 h3 a' w' h5
 |exit id=>exact⟨S',h4,h5⟩
 |goto l=>exact⟨S',h4,h5⟩
 |ret=>exact⟨S',h4,h5⟩
 |panic ch=>exact⟨S',h4,h5⟩
 |outgrown=>exact⟨S',h4,h5⟩
theorem zc0 (h:Q .normal S):awp P L N .skip Q S:=fun C h1 h2 h3 a w hs=>wp_skip ⟨S,h,hs⟩
theorem zcZ {id:Nat} (h:Q (.exit id) S):awp P L N (.exit id) Q S:=fun C h1 h2 h3 a w hs=>wp_exit ⟨S,h,hs⟩
theorem zea (h:Q .ret S):awp P L N .ret Q S:=fun C h1 h2 h3 a w hs=>wp_ret ⟨S,h,hs⟩
theorem zci {id:Nat} {c:Code} (h:awp P L N c (zgP id Q) S):awp P L N (.block id c) Q S:=by
 intro C h1 h2 h3 a w hs
 refine wp_block (Code.wp_mono (fun e a' w' ⟨S',h4,h5⟩=>?_) (h C h1 h2 h3 a w hs))
 cases e with
 |normal=>exact⟨S',h4,h5⟩
 |exit id'=>
  simp only[Exit.inBlock]
  simp only[zgP]at h4
  by_cases hid:id'=id
  ·subst hid
   rw[if_pos rfl]
   rw[show Nat.beq id' id'=true by simp]at h4
   exact⟨S',h4,h5⟩
  ·rw[if_neg hid]
   have :Nat.beq id' id=false:=by cases hb:Nat.beq id' id with
    |false=>rfl
    |true=>exact absurd (Nat.eq_of_beq_eq_true hb) hid
   rw[this]at h4
   exact⟨S',h4,h5⟩
 |goto l=>exact⟨S',h4,h5⟩
 |ret=>exact⟨S',h4,h5⟩
 |panic ch=>exact⟨S',h4,h5⟩
 |outgrown=>exact⟨S',h4,h5⟩
theorem zf8 {c:Operand} {x y:Code} {b:Bool} (hc:evA S.envF c= .r (.v (.bool b))) (ht:b=true→awp P L N x Q S) (hf:b=false→awp P L N y Q S):awp P L N (.cond c x y) Q S:=by
 intro C h1 h2 h3 a w hs
 obtain⟨Z,hS⟩:=hs
 have he:=hS.ev c
 rw[hc,AV.rep,RV.rep]at he
 exact wp_cond_split he (fun h=>ht h C h1 h2 h3 a w ⟨Z,hS⟩) (fun h=>hf h C h1 h2 h3 a w ⟨Z,hS⟩)
theorem zc1 {id:Nat} {l:List Oper} (h:wpA P L N l.toArray (fun _=>true) (Q .normal) l S []):awp P L N (.region id l.toArray false) Q S:=by
 intro C h1 h2 h3 a w hs
 subst h1 h2 h3
 exact wp_region_lit (zd8 rfl (fun S' a' w' h4 h5=>⟨S',h4,h5⟩) l S [] a w h hs)
theorem zd9 {id:Nat} {l:List Oper} (hm:P.follows .mixedOrders=true) (h:wpA P L N l.toArray (zfL l.toArray S.nx) (Q .normal) l S []):awp P L N (.region id l.toArray true) Q S:=by
 intro C h1 h2 h3 a w hs
 subst h1 h2 h3
 exact zia rfl hm (by simpa using h) hs (fun S' a' w' h4 h5=>⟨S',h4,h5⟩)
end
/-! ## Knowing less, under other numbers -/
mutual
inductive Cf (H:Nat→Option Blk) (ρ:Nat→Nat) (G:List Nat):AV→AV→Prop
 |na (a):Cf H ρ G a .na
 |r (c):Cf H ρ G (.r c) (.r c)
 |rp (cs):Cf H ρ G (.rp cs) (.rp cs)
 |ow (i):Cf H ρ G (.ow (ρ i)) (.ow i)
 |pt (i o):Cf H ρ G (.pt (ρ i) o) (.pt i o)
 |pe (i sz k f):Cf H ρ G (.pe (ρ i) sz k f) (.pe i sz k f)
 |fz (j T sz es):H j=some (.row T sz es)→j∈G→Cf H ρ G (.ow j) (.r (.sl sz es))
 |fzf (j T sz es):H j=some (.full T sz es)→j∈G→Cf H ρ G (.ow j) (.r (.sl sz es))
 |fzk (j T sz es n c):H j=some (.rowk T sz es n c)→j∈G→Cf H ρ G (.ow j) (.r (.sl sz (es.take n)))
 |fzl (j T sz es n c m):H j=some (.rowk T sz es n c)→j∈G→m≤es.length→Cf H ρ G (.ol j m) (.r (.sl sz (es.take m)))
 |fzo (j T sz es m):H j=some (.row T sz es)→j∈G→m≤es.length→Cf H ρ G (.ol j m) (.r (.sl sz (es.take m)))
 |ol (i n):Cf H ρ G (.ol (ρ i) n) (.ol i n)
 |sv (i n):Cf H ρ G (.sv (ρ i) n) (.sv i n)
 |so (i o n c):Cf H ρ G (.so (ρ i) o n c) (.so i o n c)
 |nl (sz):Cf H ρ G (.r (.v (.slice none 0 0))) (.r (.sl sz []))
 |ag (cs ds):CfL H ρ G cs ds→Cf H ρ G (.ag cs) (.ag ds)
 |cl (f cs ds):CfL H ρ G cs ds→Cf H ρ G (.cl f cs) (.cl f ds)
 |tu (cs ds):CfL H ρ G cs ds→Cf H ρ G (.tu cs) (.tu ds)
inductive CfL (H:Nat→Option Blk) (ρ:Nat→Nat) (G:List Nat):List AV→List AV→Prop
 |nil:CfL H ρ G [] []
 |cons (a d as ds):Cf H ρ G a d→CfL H ρ G as ds→CfL H ρ G (a::as) (d::ds)
end
theorem zcG {w:World} {T sz n:Nat} {v:Value} {us:List Value} {B B':Nat→Prop} {es:List (List RV)} (h:w.ownsRow 0 T sz v es.length us) (hu:RVs B w es.flatten us) (he:∀e∈es,e.length=sz)
  (hB:∀k,k<w.heap.size→B' k→B k) (hb:∀x,blk v=some x→¬B' x):RV.rep B' w (.sl sz es) v:=by
 rw[RV.rep]
 rcases h.2 with⟨e,h0⟩|⟨g,cap,cur,e,_,hg,h1,h2,h3,h4⟩
 ·have :es=[]:=List.eq_nil_of_length_eq_zero h0
  subst this
  exact⟨none,0,e,Nat.le_refl _,by unfold maxLen;omega,he,fun hn=>absurd rfl hn⟩
 ·refine⟨_,cap,e,h1,h2,he,fun _=>⟨_,rfl,zbY hg,hb g (by rw[e];rfl),?_⟩⟩
  rw[RV.rows_flat,RV.row_vals]
  refine⟨us,hu.mono (Upto.refl _) hB,fun k u hk=>?_⟩
  have hc:=cell_of_row w g k cur T (0,0) hg
  have e2:(⟨g,0,none⟩:Addr).add (0+k)=⟨g,k,none⟩:=by unfold Addr.add;by_cases h:k=0<;>simp[h]
  rw[e2,hc]
  rw[←h4,List.getElem?_take]at hk
  split at hk
  ·simpa using hk
  ·cases hk
theorem zhi {w:World} {Z:Nat→Value} {i T sz:Nat} {B B':Nat→Prop} {es:List (List RV)} (h:held Z B w i (.full T sz es)) (hB:∀k,k<w.heap.size→B' k→B k) (hb:∀x,blk (Z i)=some x→¬B' x):RV.rep B' w (.sl sz es) (Z i):=by
 rw[RV.rep]
 obtain⟨g,us,fr,e,hg,h1,h2,h3⟩:=h
 refine⟨_,_,e,Nat.le_refl _,h1,h3,fun _=>⟨_,rfl,zbY hg,hb g (by rw[e];rfl),?_⟩⟩
 rw[RV.rows_flat,RV.row_vals]
 refine⟨us.toList,h2.mono (Upto.refl _) hB,fun k u hk=>?_⟩
 have hc:=cell_of_row w g k us T fr hg
 have e2:(⟨g,0,none⟩:Addr).add (0+k)=⟨g,k,none⟩:=by unfold Addr.add;by_cases h:k=0<;>simp[h]
 rw[e2,hc]
 simpa using hk
theorem zfw {w:World} {T sz m c:Nat} {g:Nat} {us:List Value} {B B':Nat→Prop} {es:List (List RV)} (h:w.ownsRow 0 T sz (.slice (some ⟨g,0,none⟩) es.length c) es.length us) (hm:m≤es.length) (hu:RVs B w es.flatten us) (he:∀e∈es,e.length=sz)
  (hB:∀k,k<w.heap.size→B' k→B k) (hb:¬B' g):RV.rep B' w (.sl sz (es.take m)) (.slice (some ⟨g,0,none⟩) m c):=by
 have h0:=zcG (n:=0) h hu he hB (fun x hx=>by simp[blk]at hx;subst hx;exact hb)
 rw[RV.rep]at h0 ⊢
 obtain⟨A,c',e,h1,h2,h3,h4⟩:=h0
 injection e with e1 e2 e3
 subst e1 e3
 refine⟨_,_,by rw[List.length_take,Nat.min_eq_left hm],by rw[List.length_take];omega,h2,fun e he=>h3 e (List.mem_of_mem_take he),fun hne=>?_⟩
 obtain⟨ad,e,hlt,hnb,hr⟩:=h4 (fun e=>hne (by rw[e];simp))
 refine⟨ad,e,hlt,hnb,?_⟩
 rw[RV.rows_flat]at hr ⊢
 rw[(zaR sz es he m).2]
 exact RV.row_take hr _
theorem zeE {w:World} {Z:Nat→Value} {i T sz n c:Nat} {B B':Nat→Prop} {es:List (List RV)} (h:held Z B w i (.rowk T sz es n c)) (hB:∀k,k<w.heap.size→B' k→B k) (hb:∀x,blk (Z i)=some x→¬B' x):∃g,Z i= .slice (some ⟨g,0,none⟩) n c∧n≤es.length∧∀m,m≤es.length→RV.rep B' w (.sl sz (es.take m)) (.slice (some ⟨g,0,none⟩) m c):=by
 obtain⟨g,us,e,h1,h2,h3,h4⟩:=h
 exact⟨g,e,h2,fun m hm=>zfw h1 hm h3 h4 hB (hb g (by rw[e];rfl))⟩
section
variable {H:Nat→Option Blk} {ρ:Nat→Nat} {G:List Nat} {Z Z':Nat→Value} {B B':Nat→Prop} {w:World}
mutual
theorem Cf.rep (hB:∀k,k<w.heap.size→B' k→B k) (hG:∀j b,j∈G→H j=some b→held Z B w j b∧∀x,blk (Z j)=some x→¬B' x):
  ∀{a d:AV} (_:Cf H ρ G a d) (_:∀i∈d.ids,Z' i=Z (ρ i)) (u:Value),AV.rep Z B w a u→AV.rep Z' B' w d u
 |_,_,.na a,_,u,h=>by simp only[AV.rep]
 |_,_,.r c,_,u,h=>AV.rep_mono (Upto.refl _) hB _ (fun i hi=>by simp[AV.ids]at hi) _ h
 |_,_,.rp c,_,u,h=>AV.rep_mono (Upto.refl _) hB _ (fun i hi=>by simp[AV.ids]at hi) _ h
 |_,_,.ow i,hz,u,h=>by simp only[AV.rep]at h ⊢;rw[hz i (by simp[AV.ids])];exact h
 |_,_,.pt i o,hz,u,h=>by simp only[AV.rep]at h ⊢;rw[hz i (by simp[AV.ids])];exact h
 |_,_,.pe i sz k f,hz,u,h=>by simp only[AV.rep]at h ⊢;rw[hz i (by simp[AV.ids])];exact h
 |_,_,.fz j T sz es hj hg,_,u,h=>by
  simp only[AV.rep]at h ⊢
  subst h
  obtain⟨⟨us,h1,h2,h3⟩,h4⟩:=hG j _ hg hj
  exact zcG (n:=0) h1 h2 h3 hB h4
 |_,_,.fzf j T sz es hj hg,_,u,h=>by
  simp only[AV.rep]at h ⊢
  subst h
  obtain⟨h1,h4⟩:=hG j _ hg hj
  exact zhi h1 hB h4
 |_,_,.fzk j T sz es n c hj hg,_,u,h=>by
  simp only[AV.rep]at h ⊢
  subst h
  obtain⟨h1,h4⟩:=hG j _ hg hj
  obtain⟨g,e,h5,h6⟩:=zeE h1 hB h4
  rw[e];exact h6 n h5
 |_,_,.fzl j T sz es n c m hj hg hm,_,u,h=>by
  simp only[AV.rep]at h ⊢
  obtain⟨h1,h4⟩:=hG j _ hg hj
  obtain⟨g,e,h5,h6⟩:=zeE h1 hB h4
  obtain⟨g',m',c',e',rfl⟩:=h
  rw[e]at e'
  injection e' with e1 e2 e3
  injection e1 with e1
  rw[←e1,←e3];exact h6 m hm
 |_,_,.fzo j T sz es m hj hg hm,_,u,h=>by
  simp only[AV.rep]at h ⊢
  obtain⟨⟨us,h1,h2,h3⟩,h4⟩:=hG j _ hg hj
  obtain⟨g,m',c,e,rfl⟩:=h
  have h5:=h1
  rw[e]at h5
  have h6:m'=es.length:=by
   rcases h5.2 with⟨e',_⟩|⟨g',cap,cur,e',_⟩
   ·cases e'
   ·injection e' with _ e2
  subst h6
  exact zfw h5 hm h2 h3 hB (h4 g (by rw[e];rfl))
 |_,_,.ol i n,hz,u,h=>by simp only[AV.rep]at h ⊢;rw[hz i (by simp[AV.ids])];exact h
 |_,_,.sv i n,hz,u,h=>by simp only[AV.rep]at h ⊢;rw[hz i (by simp[AV.ids])];exact h
 |_,_,.so i o n c,hz,u,h=>by simp only[AV.rep]at h ⊢;rw[hz i (by simp[AV.ids])];exact h
 |_,_,.nl sz,_,u,h=>by
  simp only[AV.rep,RV.rep]at h ⊢
  exact⟨none,0,h,Nat.le_refl _,by unfold maxLen;omega,by simp,fun h=>absurd rfl h⟩
 |_,_,.ag cs ds hc,hz,u,h=>by
  rw[AV.rep]at h ⊢
  obtain⟨us,e,h⟩:=h
  exact⟨us,e,CfL.reps hB hG hc (by simpa[AV.ids]using hz) _ h⟩
 |_,_,.cl f cs ds hc,hz,u,h=>by
  rw[AV.rep]at h ⊢
  obtain⟨us,e,h⟩:=h
  exact⟨us,e,CfL.reps hB hG hc (by simpa[AV.ids]using hz) _ h⟩
 |_,_,.tu cs ds hc,hz,u,h=>by
  rw[AV.rep]at h ⊢
  obtain⟨us,e,h⟩:=h
  exact⟨us,e,CfL.reps hB hG hc (by simpa[AV.ids]using hz) _ h⟩
theorem CfL.reps (hB:∀k,k<w.heap.size→B' k→B k) (hG:∀j b,j∈G→H j=some b→held Z B w j b∧∀x,blk (Z j)=some x→¬B' x):
  ∀{as ds:List AV} (_:CfL H ρ G as ds) (_:∀i∈AV.idss ds,Z' i=Z (ρ i)) (us:List Value),AV.reps Z B w as us→AV.reps Z' B' w ds us
 |_,_,.nil,_,us,h=>by rw[AV.reps]at h ⊢;exact h
 |_,_,.cons a d as ds h1 h2,hz,us,h=>by
  rw[AV.reps]at h ⊢
  obtain⟨u,us',e,h3,h4⟩:=h
  exact⟨u,us',e,Cf.rep hB hG h1 (fun i hi=>hz i (by simp[AV.idss,hi])) u h3,CfL.reps hB hG h2 (fun i hi=>hz i (by simp[AV.idss,hi])) us' h4⟩
end
end
inductive CfB (H:Nat→Option Blk) (ρ:Nat→Nat) (G:List Nat):Blk→Blk→Prop
 |row (T sz es):CfB H ρ G (.row T sz es) (.row T sz es)
 |full (T sz es):CfB H ρ G (.full T sz es) (.full T sz es)
 |rowk (T sz es n c):CfB H ρ G (.rowk T sz es n c) (.rowk T sz es n c)
 |var (T cs ds):CfL H ρ G cs ds→CfB H ρ G (.var T cs) (.var T ds)
 |rowo (T sz es cs ds):CfL H ρ G cs ds→CfB H ρ G (.rowo T sz es cs) (.rowo T sz es ds)
 |rowc (T sz es cs e):CfL H ρ G cs (e.map AV.r)→CfB H ρ G (.rowo T sz es cs) (.row T sz (es++[e]))
 |mp (l):CfB H ρ G (.mp l) (.mp l)
 |obj (o):CfB H ρ G (.obj o) (.obj o)
 |gl (g o):CfB H ρ G (.gl g o) (.gl g o)
theorem CfL.len {H:Nat→Option Blk} {ρ:Nat→Nat} {G:List Nat}:∀{as ds:List AV},CfL H ρ G as ds→as.length=ds.length
 |_,_,.nil=>rfl
 |_,_,.cons _ _ _ _ _ h=>by simp[h.len]
theorem zcU {Z:Nat→Value} {B:Nat→Prop} {w:World}:∀(e:List RV) {us:List Value},AV.reps Z B w (e.map AV.r) us→us.all (·.oneCell')=true→RVs B w e us
 |[],us,h,_=>by rw[List.map_nil,AV.reps]at h;subst h;exact .nil
 |c::e,us,h,h1=>by
  rw[List.map_cons,AV.reps]at h
  obtain⟨u,us',rfl,h2,h3⟩:=h
  rw[List.all_cons,Bool.and_eq_true]at h1
  rw[AV.rep]at h2
  exact .cons h1.1 h2 (zcU e h3 h1.2)
def rho (l:List (Nat×Nat)) (i:Nat):Nat:=match l with |[]=>i|(k,x)::l=>bif Nat.beq k i then x else rho l i
def eLe (S:St) (ρ:Nat→Nat) (G:List Nat):List (Nat×AV)→Prop
 |[]=>True
 |(t,x)::l=>Cf S.HF ρ G (S.envF t) x∧eLe S ρ G l
def hLe (S:St) (ρ:Nat→Nat) (G:List Nat):List (Nat×Option Blk)→Prop
 |[]=>True
 |(i,some b)::l=>(∃b',S.HF (ρ i)=some b'∧CfB S.HF ρ G b' b)∧hLe S ρ G l
 |(_,none)::_=>False
def zfm (L:Ln) (T:St) (ρ:Nat→Nat) (G:List Nat):Bool:=
 (T.env.all fun p=>p.2.ids.all fun i=>Nat.blt i T.nx) && (T.H.all fun p=>Nat.blt p.1 T.nx && match p.2 with |some b=>b.ids.all fun i=>Nat.blt i T.nx|none=>true) &&
 ((List.range L.n).all fun i=>Nat.beq (ρ i) i) && Nat.ble L.n T.nx &&
 (T.H.all fun p=>T.H.all fun q=>Nat.beq p.1 q.1 || !Nat.beq (ρ p.1) (ρ q.1)) && (T.H.all fun p=>Nat.ble L.n (ρ p.1) || Nat.blt p.1 L.n || Nat.blt (ρ p.1) L.m) && (G.all fun g=>Nat.beq L.m 0 && Nat.ble L.n g && T.H.all fun p=> !Nat.beq (ρ p.1) g)
theorem get_mem:∀{l:List (Nat×AV)} {t:Nat},get l t= .na∨(t,get l t)∈l
 |[],t=>.inl rfl
 |(k,x)::l,t=>by
  rw[get]
  cases hb:Nat.beq k t with
  |true=>have :=Nat.eq_of_beq_eq_true hb;subst this;exact .inr (by simp)
  |false=>
   rcases get_mem (l:=l) (t:=t)with h|h
   ·exact .inl h
   ·exact .inr (by simp[h])
theorem zba:∀{l:List (Nat×Option Blk)} {i:Nat} {b:Blk},getH l i=some b→(i,some b)∈l
 |[],i,b,h=>by simp[getH]at h
 |(k,x)::l,i,b,h=>by
  rw[getH]at h
  cases hb:Nat.beq k i with
  |true=>rw[hb]at h;have :=Nat.eq_of_beq_eq_true hb;subst this;simp at h;subst h;simp
  |false=>rw[hb]at h;exact List.mem_cons_of_mem _ (zba h)
theorem zhD {S:St} {ρ:Nat→Nat} {G:List Nat}:∀{l:List (Nat×AV)} {t:Nat} {x:AV},eLe S ρ G l→(t,x)∈l→Cf S.HF ρ G (S.envF t) x
 |(k,y)::l,t,x,h,hm=>by
  rw[eLe]at h
  rcases List.mem_cons.1 hm with e|e
  ·injection e with e1 e2;subst e1 e2;exact h.1
  ·exact zhD h.2 e
theorem zhJ {S:St} {ρ:Nat→Nat} {G:List Nat}:∀{l:List (Nat×Option Blk)} {i:Nat} {b:Blk},hLe S ρ G l→(i,some b)∈l→∃b',S.HF (ρ i)=some b'∧CfB S.HF ρ G b' b
 |(k,none)::l,i,b,h,hm=>by rw[hLe]at h;exact h.elim
 |(k,some c)::l,i,b,h,hm=>by
  rw[hLe]at h
  rcases List.mem_cons.1 hm with e|e
  ·injection e with e1 e2;injection e2 with e2;subst e1 e2;exact h.1
  ·exact zhJ h.2 e
theorem Sim.weaken {C:Cx} {S:St} {a:Act} {w:World} (hs:Sim C S a w) (T:St) (l:List (Nat×Nat)) (G:List Nat) (hn:zfm C.ln T (rho l) G=true) (he:eLe S (rho l) G T.env) (hh:hLe S (rho l) G T.H) (hG:∀g∈G,∃b,S.HF g=some b):Sim C T a w:=by
 obtain⟨Z,h⟩:=hs
 generalize rho l=ρ at *
 unfold zfm at hn
 simp only[Bool.and_eq_true,List.all_eq_true,za2,zbv]at hn
 obtain⟨⟨⟨⟨⟨⟨n1,n2⟩,n3⟩,n4⟩,n5⟩,n7⟩,n6⟩:=hn
 have hH:∀i b,T.HF i=some b→∃b',S.HF (ρ i)=some b'∧CfB S.HF ρ G b' b:=fun i b hb=>zhJ hh (zba hb)
 have hB:∀k,k<w.heap.size→Own C T.HF (fun i=>Z (ρ i)) k→Own C S.HF Z k:=by
  rintro k _ (h0|⟨i,b,hi,hb⟩)
  ·exact .inl h0
  ·obtain⟨b',h1,_⟩:=hH i b hi
   exact .inr ⟨ρ i,b',h1,hb⟩
 have hGG:∀j b,j∈G→S.HF j=some b→held Z (Own C S.HF Z) w j b∧∀x,blk (Z j)=some x→¬Own C T.HF (fun i=>Z (ρ i)) x:=by
  intro j b hj hb
  refine⟨(h.holds j b hb).1,fun x hx=>?_⟩
  obtain⟨⟨g0,g1⟩,g2⟩:=n6 j hj
  have g0:=Nat.eq_of_beq_eq_true g0
  rintro(h0|⟨i,c,hi,hc⟩)
  ·have :=h.m0 x h0
   rcases h.fresh j b x hb hx with h3|h3|⟨q,h3,_⟩
   ·unfold Cx.nl at h3;omega
   ·omega
   ·omega
  ·obtain⟨c',h1,_⟩:=hH i c hi
   have h2:=g2 _ (zba hi)
   have h3:ρ i≠j:=fun e=>by simp[e]at h2
   exact h.dist (ρ i) j c' b h1 hb h3 x hc hx
 refine⟨fun i=>Z (ρ i),h.size,h.defers,h.frame,h.m0,fun t=>?_,fun t i hi=>?_,fun i b hb=>?_,fun i j b c hi hj hij x hx hx2=>?_,fun i b x hi hx=>?_,h.lm,fun i hi=>?_⟩
 ·unfold St.envF
  rcases get_mem (l:=T.env) (t:=t)with e|e
  ·rw[e,AV.rep];trivial
  ·exact Cf.rep hB hGG (zhD he e) (fun _ _=>rfl) _ (h.slots t)
 ·unfold St.envF at hi
  rcases get_mem (l:=T.env) (t:=t)with e|e
  ·rw[e]at hi;simp[AV.ids]at hi
  ·exact n1 _ e i hi
 ·obtain⟨b',h1,h2⟩:=hH i b hb
  have h3:=(h.holds _ b' h1).1
  obtain⟨m1,m2⟩:=n2 _ (zba hb)
  refine⟨?_,m1,fun j hj=>?_⟩
  ·cases h2 with
   |row T sz es=>
    obtain⟨us,g1,g2,g3⟩:=h3
    exact⟨us,g1,g2.mono (Upto.refl _) hB,g3⟩
   |full T sz es=>
    obtain⟨q,us,fr,g1,g2,g3,g4,g5⟩:=h3
    exact⟨q,us,fr,g1,g2,g3,g4.mono (Upto.refl _) hB,g5⟩
   |var T cs ds hc=>
    obtain⟨q,us,g1,g2,g3,g4⟩:=h3
    exact⟨q,us,g1,g2,CfL.reps hB hGG hc (fun _ _=>rfl) _ g3,g4⟩
   |rowk T sz es n c=>
    obtain⟨g,us,g1,g2,g3,g4,g5⟩:=h3
    exact⟨g,us,g1,g2,g3,g4.mono (Upto.refl _) hB,g5⟩
   |rowo T sz es cs ds hc=>
    obtain⟨us,vs,g1,g2,g3,g4,g5,g6⟩:=h3
    exact⟨us,vs,g1,g2.mono (Upto.refl _) hB,CfL.reps hB hGG hc (fun _ _=>rfl) _ g3,g4,by rw[←hc.len];exact g5,g6⟩
   |rowc T sz es cs e hc=>
    obtain⟨us,vs,g1,g2,g3,g4,g5,g6⟩:=h3
    have g7:=CfL.reps (Z':=fun i=>Z (ρ i)) hB hGG hc (fun _ _=>rfl) _ g3
    have g8:=hc.len
    rw[List.length_map]at g8
    refine⟨us++vs,by rw[List.length_append];exact g1,?_,fun x hx=>?_⟩
    ·rw[List.flatten_append]
     refine(g2.mono (Upto.refl _) hB).append ?_
     rw[show[e].flatten=e by simp]
     exact zcU e g7 g6
    ·rcases List.mem_append.1 hx with hx|hx
     ·exact g4 x hx
     ·rw[List.mem_singleton]at hx;subst hx;omega
   |mp l=>
    obtain⟨q,es,clock,g1,g2,g3⟩:=h3
    exact⟨q,es,clock,g1,g2,g3⟩
   |obj o=>
    obtain⟨q,g1,g2⟩:=h3
    exact⟨q,g1,g2⟩
   |gl g o=>exact h3
  ·simp only[List.all_eq_true,za2]at m2
   exact m2 j hj
 ·obtain⟨b',h1,_⟩:=hH i b hi
  obtain⟨c',h2,_⟩:=hH j c hj
  have :=n5 _ (zba hi) _ (zba hj)
  rw[Bool.or_eq_true]at this
  rcases this with h3|h3
  ·exact hij (Nat.eq_of_beq_eq_true h3)
  ·exact h.dist (ρ i) (ρ j) b' c' h1 h2 (fun e=>by simp[e]at h3) x hx hx2
 ·obtain⟨b',h1,_⟩:=hH i b hi
  rcases h.fresh _ b' x h1 hx with h3|h3
  ·have :=n7 _ (zba hi)
   simp only[Bool.or_eq_true,zbv,za2]at this
   rcases this with(h4|h4)|h4
   ·unfold Cx.nl at h3;omega
   ·exact .inl h4
   ·exact .inr (.inr ⟨ρ i,h4,by rw[←(h.zl _ (Nat.lt_of_lt_of_le h4 h.lm)).1];exact hx⟩)
  ·exact .inr h3
 ·have h4:=Nat.eq_of_beq_eq_true (n3 i (by simpa[Cx.nl]using hi))
  rw[h4]
  exact⟨(h.zl i hi).1,Nat.lt_of_lt_of_le hi n4⟩
section
variable {P:Program} {L:Ln} {N:Nat} {Q:Exit→St→Prop} {S:St}
def Le (L:Ln) (S T:St):Prop:=∀C a w,C.ln=L→Sim C S a w→Sim C T a w
theorem Le.mk {S T:St} (l:List (Nat×Nat)) (G:List Nat) (hn:zfm L T (rho l) G=true) (he:eLe S (rho l) G T.env) (hh:hLe S (rho l) G T.H) (hG:∀g∈G,∃b,S.HF g=some b):Le L S T:=
 fun C a w h hs=>hs.weaken T l G (h▸hn) he hh hG
theorem zap {c:Code} {α:Type} (T:α→St) (I:α→Prop) (μ:α→Nat) (x0:α) (h0:I x0) (hL:Le L S (T x0)) (round:∀x,I x→awp P L N c (zmi (fun S'=>∃y,I y∧Le L S' (T y)∧μ y<μ x) Q) (T x)):awp P L N (.loop c) Q S:=by
 intro C h1 h2 h3 a w hs b k cs
 have key:∀n a w,(∃x,I x∧Sim C (T x) a w∧μ x=n)→∃e a' w',(∃S',Q e S'∧Sim C S' a' w')∧Arrives P (lone (b.at a (.code c:: .inLoop c::k)) cs w) b k cs e a' w':=by
  intro n
  induction n using Nat.strongRecOn with
  |_ n ih=>
   rintro a w ⟨x,hI,hS,rfl⟩
   obtain⟨e,a1,w1,⟨S1,hq,hS1⟩,harr⟩:=round x hI C h1 h2 h3 a w hS b (.inLoop c::k) cs
   cases e with
   |normal=>
    obtain⟨y,hIy,hle,hlt⟩:=hq
    obtain⟨e2,a2,w2,hq2,harr2⟩:=ih (μ y) hlt a1 w1 ⟨y,hIy,hle C a1 w1 h2 hS1,rfl⟩
    exact⟨e2,a2,w2,hq2,.of_steps (Steps.trans harr (.one step_inLoop)) harr2⟩
   |exit id=>exact⟨_,a1,w1,⟨S1,hq,hS1⟩,.pass (x:=.inLoop c) rfl (fun _ _=>.inl (by simp)) harr⟩
   |goto l=>exact⟨_,a1,w1,⟨S1,hq,hS1⟩,.pass (x:=.inLoop c) rfl (fun _ _=>.inl (by simp)) harr⟩
   |ret=>exact⟨_,a1,w1,⟨S1,hq,hS1⟩,.pass (x:=.inLoop c) rfl (fun _ _=>.inl (by simp)) harr⟩
   |panic ch=>exact⟨_,a1,w1,⟨S1,hq,hS1⟩,.pass (x:=.inLoop c) rfl (fun _ _=>.inl (by simp)) harr⟩
   |outgrown=>exact⟨_,a1,w1,⟨S1,hq,hS1⟩,.pass (x:=.inLoop c) rfl (fun _ _=>.inl (by simp)) harr⟩
 obtain⟨e,a',w',hq,harr⟩:=key _ a w ⟨x0,h0,hL C a w h2 hs,rfl⟩
 exact⟨e,a',w',hq,.of_steps (.one step_loop) harr⟩
theorem zjA {c:Code} {T:St} (hL:Le L S T) (h:awp P L N c Q T):awp P L N c Q S:=fun C h1 h2 h3 a w hs=>h C h1 h2 h3 a w (hL C a w h2 hs)
end
/-! ## Functions -/
mutual
def AV.unfr:AV→Nat→AV×List Blk
 |.fr T sz es,k=>(.ow k,[.row T sz es])
 |.ag cs,k=>(.ag (AV.unfrs cs k).1,(AV.unfrs cs k).2)
 |.tu cs,k=>(.tu (AV.unfrs cs k).1,(AV.unfrs cs k).2)
 |a,_=>(a,[])
def AV.unfrs:List AV→Nat→List AV×List Blk
 |[],_=>([],[])
 |c::cs,k=>((AV.unfr c k).1::(AV.unfrs cs (k+(AV.unfr c k).2.length)).1,(AV.unfr c k).2++(AV.unfrs cs (k+(AV.unfr c k).2.length)).2)
end
def numd:Nat→List Blk→List (Nat×Blk)
 |_,[]=>[]
 |k,b::bs=>(k,b)::numd (k+1) bs
def zlL (l:List (Nat×Blk)):List (Nat×Option Blk):=l.map fun p=>(p.1,some p.2)
def zaM:Nat→List (Option Blk)→List (Nat×Option Blk)
 |_,[]=>[]
 |k,b::bs=>(k,b)::zaM (k+1) bs
def moved:List (Option Blk)→Nat
 |none::l=>moved l+1
 |_=>0
def zaq (k:Nat) (pre:List Blk) (r:AV) (post:List (Option Blk)):Sp:=⟨true,numd 0 pre,(r.unfr k).1,zaM 0 post,(r.unfr k).2⟩
def zam (P:Program) (f:FuncId) (args:List AV) (pre:List Blk) (r:AV) (post:List (Option Blk)):Prop:=
 ∀(w:World) (Z:Nat→Value) (M:Nat→Prop) (k:Nat) (us:List Value),(∀x,M x→x<w.heap.size)→pre.length≤k→AV.reps Z M w args us→
  (∀i b,(i,b)∈numd 0 pre→held Z M w i b∧∀x,blk (Z i)=some x→M x)→
  (∀i j b c,(i,b)∈numd 0 pre→(j,c)∈numd 0 pre→i≠j→∀x,blk (Z i)=some x→blk (Z j)≠some x)→
  Calls P f us.toArray w fun e w'=>∃v,e= .returned v∧After k (zaq k pre r post) Z M w v w'
end Go.Ab
