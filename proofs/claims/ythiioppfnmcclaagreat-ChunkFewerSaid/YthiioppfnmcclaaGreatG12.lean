/- Texts of the second layer in one: Wd7 Wd8 Wg0 Nb1 Ck1 Rs2. -/
import Derived.Test.YthiioppfnmcclaaGreatG11
import Derived.Lib.BitFns
import Derived.Lib.ItoaNum
import Derived.Test.YthiioppfnmcclaaGreatG5
import Derived.Test.YthiioppfnmcclaaGreatG7
import Derived.Test.YthiioppfnmcclaaGreatG10
import Derived.Maps.AppendAt
import Derived.Deep.LoopGhost
import Derived.Lib.LazyBuf
set_option maxHeartbeats 1000000
set_option maxRecDepth 100000
set_option linter.unusedVariables false
set_option linter.unusedSimpArgs false
namespace Go.Proofs.YthiioppfnmcclaaGreat
open Go.RowKit Go.Ab Go.Wd
instance zoQ:EqAr Tryz.prog 123:=⟨by kernel_rfl⟩
def w4 (n:Nat):AV:=.ag [.r (.v (.int .u64 ((n%B64:Nat):Int))),.r (.v (.int .u64 ((n/B64%B64:Nat):Int))),.r (.v (.int .u64 ((n/B64/B64%B64:Nat):Int))),.r (.v (.int .u64 ((n/B64/B64/B64%B64:Nat):Int)))]
theorem Rt.w4 {H:Nat→Option Blk} {L:Nat} {G:List Nat} (n:Nat):Rt H L G (Go.Proofs.YthiioppfnmcclaaGreat.w4 n) (Go.Proofs.YthiioppfnmcclaaGreat.w4 n) []:=.ag _ _ _ (Rt.agR [.v (.int .u64 ((n%B64:Nat):Int)),.v (.int .u64 ((n/B64%B64:Nat):Int)),.v (.int .u64 ((n/B64/B64%B64:Nat):Int)),.v (.int .u64 ((n/B64/B64/B64%B64:Nat):Int))])
theorem four (l:List Nat) (h:l.length=4) (hw:Wds l):l=ws (val l) 4:=by
 have :=zmN l hw
 rw[h]at this
 exact this.symm
end Go.Proofs.YthiioppfnmcclaaGreat
namespace Go.Wd
open Go
theorem zmQ:B64=2^64:=by decide
def bl (n:Nat):Nat:=if n=0 then 0 else n.log2+1
theorem zmU (n:Nat):n<2^bl n:=by
 unfold bl
 split
 ·rename_i h;subst h;decide
 ·exact Nat.lt_log2_self
theorem zmT (n:Nat) (h:n≠0):2^(bl n-1)≤n:=by
 unfold bl
 rw[if_neg h]
 exact Nat.log2_self_le h
theorem zn9 {n:Nat} (h:n≠0):0<bl n:=by unfold bl;rw[if_neg h];omega
theorem zmV (n k:Nat) (h1:2^k≤n) (h2:n<2^(k+1)):bl n=k+1:=by
 have hn:n≠0:=by have :0<2^k:=Nat.pow_pos (by decide);omega
 have a1:=zmU n
 have a2:=zmT n hn
 have a3:=zn9 hn
 rcases Nat.lt_trichotomy (bl n) (k+1)with h|h|h
 ·have :2^bl n≤2^k:=Nat.pow_le_pow_right (by decide) (by omega)
  omega
 ·exact h
 ·have :2^(k+1)≤2^(bl n-1):=Nat.pow_le_pow_right (by decide) (by omega)
  omega
theorem zn8 (x:Nat) (h:x<B64):Lib.bitLen x=bl x:=by
 by_cases h0:x=0
 ·subst h0;rfl
 ·obtain⟨b1,b2,b3⟩:=Lib.bitLenAux_bounds 64 x (by rw[←zmQ];exact h) h0
  have :=zmV x (Lib.bitLenAux 64 x-1) b2 (by rw[Nat.sub_add_cancel b1];exact b3)
  rw[this]
  show Lib.bitLenAux 64 x=_
  omega
end Go.Wd
namespace Go.Proofs.YthiioppfnmcclaaGreat
open Go.Wd Go.Ab
theorem ze1:B64=18446744073709551616:=rfl
def orA (l:List Nat):Nat:=l.foldl (fun a v=>a |||v) 0
theorem zoV (a b:Nat):a≤a |||b:=Nat.left_le_or
theorem zki:∀(l:List Nat) (a:Nat),a≤l.foldl (fun a v=>a |||v) a∧∀v∈l,v≤l.foldl (fun a v=>a |||v) a
 |[],a=>⟨Nat.le_refl _,by simp⟩
 |x::l,a=>by
  obtain⟨h1,h2⟩:=zki l (a |||x)
  rw[List.foldl_cons]
  refine⟨Nat.le_trans (zoV a x) h1,fun v hv=>?_⟩
  rcases List.mem_cons.1 hv with rfl|hv
  ·exact Nat.le_trans Nat.right_le_or h1
  ·exact h2 v hv
theorem zkj (k:Nat):∀(l:List Nat) (a:Nat),a<2^k→(∀v∈l,v<2^k)→l.foldl (fun a v=>a |||v) a<2^k
 |[],a,h,_=>h
 |x::l,a,h,hl=>zkj k l _ (Nat.or_lt_two_pow h (hl x (by simp))) fun v hv=>hl v (by simp[hv])
def wdt (l:List Nat):Nat:=bl (orA l)
theorem ziO (l:List Nat):∀v∈l,v<2^wdt l:=fun v hv=>Nat.lt_of_le_of_lt ((zki l 0).2 v hv) (zmU _)
theorem zjD {n:Nat} (h:n<B64):bl n≤64:=by
 rcases Nat.lt_or_ge 64 (bl n)with h1|h1
 ·have hn:n≠0:=by intro h0;subst h0;simp[bl]at h1
  have h2:=zmT n hn
  have h3:(2:Nat)^64≤2^(bl n-1):=Nat.pow_le_pow_right (by omega) (by omega)
  have h4:(2:Nat)^64=B64:=by decide
  omega
 ·exact h1
theorem zlc {l:List Nat} (h:∀v∈l,v<B64):wdt l≤64:=zjD (zkj 64 l 0 (by decide) h)
def psz (n w:Nat):Nat:=(n*w+7)/8
theorem zgo (n w:Nat):w*n≤8*psz n w:=by rw[Nat.mul_comm w];unfold psz;omega
def pkL (l:List Nat):List UInt8:=lb (psz l.length (wdt l)) (bigN (wdt l) l)
theorem zgm (l:List Nat):(pkL l).length=psz l.length (wdt l):=zfQ _ _
def plS:List Nat→Nat
 |[]=>1
 |v::l=>plS l+(vb v).length
def encN (l:List Nat):List UInt8:=if 2+psz l.length (wdt l)<plS l then 1::UInt8.ofNat (wdt l)::pkL l else 0::l.flatMap vb
theorem zgn:∀l:List Nat,(l.flatMap vb).length+1=plS l
 |[]=>rfl
 |v::l=>by rw[List.flatMap_cons,List.length_append,plS,←zgn l];omega
theorem ziz:∀l:List Nat,plS l≤1+10*l.length
 |[]=>by simp[plS]
 |v::l=>by have :=ziz l;have :=(zbe v).2;rw[plS,List.length_cons];omega
theorem zbg (l:List Nat):1≤(encN l).length∧(encN l).length≤1+10*l.length:=by
 have :=ziz l
 have :=zgn l
 unfold encN
 split
 ·rw[List.length_cons,List.length_cons,zgm];omega
 ·rw[List.length_cons];omega
theorem zn6 {l:List Nat}:bN (pkL l)=bigN (wdt l) l:=by
 rw[pkL,zn5,Nat.mod_eq_of_lt]
 refine Nat.lt_of_lt_of_le (zf9 _ _ (ziO l)) ?_
 rw[p256]
 exact Nat.pow_le_pow_right (by omega) (zgo _ _)
def rdPl (b:List UInt8):Nat→Nat→List Nat×Nat×Nat
 |0,a=>([],a,0)
 |n+1,a=>if(rdN b a).2.2≠0 then([],0,(rdN b a).2.2)else
  if(rdPl b n (rdN b a).2.1.toNat).2.2≠0 then([],0,(rdPl b n (rdN b a).2.1.toNat).2.2)else((rdN b a).1::(rdPl b n (rdN b a).2.1.toNat).1,(rdPl b n (rdN b a).2.1.toNat).2.1,0)
def rdPk (b:List UInt8) (n a:Nat):List Nat×Nat×Nat:=
 if b.length≤a then([],0,4)else if 64<(b.getD a 0).toNat then([],0,5)else if b.length-(a+1)<psz n (b.getD a 0).toNat then([],0,4)
 else if bN ((b.drop (a+1)).take (psz n (b.getD a 0).toNat))<2^((b.getD a 0).toNat*n)then(unpk (bN ((b.drop (a+1)).take (psz n (b.getD a 0).toNat))) (b.getD a 0).toNat n,a+1+psz n (b.getD a 0).toNat,0)else([],0,5)
def rdE (b:List UInt8) (a n:Nat):List Nat×Nat×Nat:=if(b.getD a 0).toNat=1 then rdPk b n (a+1)else rdPl b n (a+1)
def decN (b:List UInt8) (a n:Nat):List Nat×Nat×Nat:=
 if a=b.length then([],0,4)else if 1<(b.getD a 0).toNat then([],0,5)else if(rdE b a n).2.2≠0 then([],0,(rdE b a n).2.2)
 else if encN (rdE b a n).1=(b.drop a).take ((rdE b a n).2.1-a)then rdE b a n else([],0,5)
theorem zdF (p r:List UInt8) (v:Nat) (hv:v<B64):rdN (p++(vb v++r)) (p.length:Nat)=(v,((p.length+(vb v).length:Nat):Int),0):=by
 rw[←List.append_assoc,zou p r v hv]
 simp
theorem ziC (q:List UInt8):∀(l:List Nat) (p:List UInt8),(∀v∈l,v<B64)→rdPl (p++(l.flatMap vb++q)) l.length p.length=(l,p.length+(l.flatMap vb).length,0)
 |[],p,_=>by simp[rdPl]
 |v::l,p,h=>by
  have h1:=zdF p (l.flatMap vb++q) v (h v (by simp))
  have h2:=ziC q l (p++vb v) fun x hx=>h x (by simp[hx])
  rw[List.length_append,List.append_assoc]at h2
  rw[List.flatMap_cons,List.append_assoc,List.length_cons,rdPl,h1]
  dsimp only
  rw[if_neg (by simp),Int.toNat_natCast,h2]
  dsimp only
  rw[if_neg (by simp),List.length_append]
  congr 2
  omega
theorem zeL (p:List UInt8) (c:UInt8) (q:List UInt8):(p++c::q).getD p.length 0=c:=by simp
theorem ziJ (p e q:List UInt8):((p++(e++q)).drop p.length).take (p.length+e.length-p.length)=e:=by
 rw[List.drop_left,Nat.add_sub_cancel_left,List.take_left]
theorem zeK (p q:List UInt8) (l:List Nat) (h:∀v∈l,v<B64):decN (p++(encN l++q)) p.length l.length=(l,p.length+(encN l).length,0):=by
 have hne:¬p.length=(p++(encN l++q)).length:=by
  have :=(zbg l).1
  simp only[List.length_append];omega
 have hE:rdE (p++(encN l++q)) p.length l.length=(l,p.length+(encN l).length,0)∧((p++(encN l++q)).getD p.length 0).toNat≤1:=by
  by_cases hc:2+psz l.length (wdt l)<plS l
  ·have he:encN l=1::UInt8.ofNat (wdt l)::pkL l:=if_pos hc
   have h64:=zlc h
   have hw:(UInt8.ofNat (wdt l)).toNat=wdt l:=by rw[zgF];omega
   rw[he]
   have g0:(p++(1::UInt8.ofNat (wdt l)::pkL l++q)).getD p.length 0=1:=zeL _ _ _
   have e1:p++(1::UInt8.ofNat (wdt l)::pkL l++q)=(p++[1])++(UInt8.ofNat (wdt l)::(pkL l++q)):=by simp
   have g1:(p++(1::UInt8.ofNat (wdt l)::pkL l++q)).getD (p.length+1) 0=UInt8.ofNat (wdt l):=by
    rw[e1,show p.length+1=(p++[1]).length by simp];exact zeL _ _ _
   have e2:(p++(1::UInt8.ofNat (wdt l)::pkL l++q)).drop (p.length+1+1)=pkL l++q:=by
    rw[show p++(1::UInt8.ofNat (wdt l)::pkL l++q)=(p++[1,UInt8.ofNat (wdt l)])++(pkL l++q) by simp,show p.length+1+1=(p++[1,UInt8.ofNat (wdt l)]).length by simp]
    exact List.drop_left
   have hlen:(p++(1::UInt8.ofNat (wdt l)::pkL l++q)).length=p.length+2+psz l.length (wdt l)+q.length:=by
    simp only[List.length_append,List.length_cons,zgm];omega
   refine⟨?_,by rw[g0];decide⟩
   unfold rdE rdPk
   rw[g0,if_pos (by decide),g1,hw,if_neg (by omega),if_neg (by omega),if_neg (by omega),e2]
   rw[←zgm l,List.take_left,zn6,if_pos (zf9 _ _ (ziO l))]
   have :=zk0 (wdt l) l (ziO l) 0
   rw[Nat.mul_zero,Nat.add_zero]at this
   rw[this]
   simp only[List.length_cons]
   congr 2
   omega
  ·have he:encN l=0::l.flatMap vb:=if_neg hc
   rw[he]
   have g0:(p++(0::l.flatMap vb++q)).getD p.length 0=0:=zeL _ _ _
   refine⟨?_,by rw[g0];decide⟩
   unfold rdE
   rw[g0,if_neg (by decide),show p++(0::l.flatMap vb++q)=(p++[0])++(l.flatMap vb++q) by simp,show p.length+1=(p++[0]).length by simp,ziC q l _ h]
   simp only[List.length_append,List.length_cons,List.length_nil]
   congr 2
   omega
 obtain⟨hE,h1⟩:=hE
 unfold decN
 rw[if_neg hne,if_neg (by omega),hE]
 dsimp only
 rw[if_neg (by simp),ziJ,if_pos rfl]
/-! Residuals -/
def res (l:List Int) (o:Nat):List UInt8:=UInt8.ofNat o::encN ((zaO difs o l).map zz)
def shorter (a b:List UInt8):List UInt8:=if b.length<a.length then b else a
def resE (l:List Int):List UInt8:=shorter (shorter (res l 0) (res l 1)) (res l 2)
theorem zeA (a b:List UInt8):shorter a b=a∨shorter a b=b:=by unfold shorter;split <;>simp
theorem zkC (l:List Int):∃o,o≤2∧resE l=res l o:=by
 unfold resE
 rcases zeA (shorter (res l 0) (res l 1)) (res l 2)with h|h
 ·rcases zeA (res l 0) (res l 1)with h'|h'
  ·exact⟨0,by omega,h.trans h'⟩
  ·exact⟨1,by omega,h.trans h'⟩
 ·exact⟨2,by omega,h⟩
theorem zmP {l:List Int} (h:∀v∈l,In64 v):∀v∈l.map zz,v<B64:=by
 intro v hv
 obtain⟨x,hx,rfl⟩:=List.mem_map.1 hv
 exact zjy (h x hx)
theorem zdt (l:List Int):2≤(resE l).length∧(resE l).length≤2+10*l.length:=by
 obtain⟨o,ho,he⟩:=zkC l
 have :=zbg ((zaO difs o l).map zz)
 rw[List.length_map,za7 difs zbG]at this
 rw[he,res,List.length_cons]
 omega
/-! Times -/
def stG:Int→Int→List Int→List Nat
 |_,_,[]=>[]
 |d,p,v::l=>zz (w64 (v-p-d))::stG (v-p) v l
def stL:List Int→List Nat
 |x::y::l=>(y-x-1).toNat::stG (y-x) y l
 |_=>[]
def stE (l:List Int):List UInt8:=encN (stL l)
theorem zkR:∀d p l,(stG d p l).length=l.length
 |_,_,[]=>rfl
 |d,p,v::l=>by rw[stG,List.length_cons,zkR,List.length_cons]
theorem zcV:∀l:List Int,(stL l).length=l.length-1
 |[]=>rfl
 |[x]=>rfl
 |x::y::l=>by simp[stL,zkR]
def Asc (l:List Int):Prop:=l.Pairwise (· < ·)
theorem zmL:∀(l:List Int) (d p:Int),∀x∈stG d p l,x<B64
 |[],d,p,x,h=>by simp[stG]at h
 |v::l,d,p,x,h=>by
  rw[stG,List.mem_cons]at h
  rcases h with rfl|h
  ·exact zjy (ziN _)
  ·exact zmL l _ _ x h
theorem zkT {l:List Int} (h:∀v∈l,In64 v):∀x∈stL l,x<B64:=by
 match l,h with
 |[],_=>simp[stL]
 |[x],_=>simp[stL]
 |x::y::l,h=>
  intro z hz
  have hx:=h x (by simp)
  have hy:=h y (by simp)
  unfold In64 at hx hy
  rw[stL,List.mem_cons]at hz
  rcases hz with rfl|hz
  ·rw[ze1];omega
  ·exact zmL _ _ _ z hz
/-! Constants -/
def conE (l:List (Int×Int)):List UInt8:=vb l.length++(encN (l.map fun x=>(x.1-1).toNat)++resE (l.map Prod.snd))
end Go.Proofs.YthiioppfnmcclaaGreat
namespace Go.Proofs.YthiioppfnmcclaaGreat
open Go.RowKit Go.Ab Go.Wd
theorem zjz (a d:Int):zam Tryz.prog 69 [.r (.v (.int .i64 a)),.r (.v (.int .u64 d))] [] (.r (.v (.int .i64 (w64 (a+d))))) []:=by
 refine zaA Tryz.func69 rfl (Nat.le_of_ble_eq_true rfl) rfl rfl ?_
 have c1:IntKind.u64.wrap a=a%18446744073709551616:=IntKind.wrap_u64 _
 have c2:IntKind.u64.wrap (a%18446744073709551616+d)=(a+d)%18446744073709551616:=by rw[IntKind.wrap_u64];omega
 have c3:IntKind.i64.wrap ((a+d)%18446744073709551616)=w64 (a+d):=by rw[IntKind.wrap_i64];unfold w64;omega
 (repeat' (first|refine zad ?_|(refine zac (fun hb=>?_) (fun hb=>?_)<;>(try(exfalso;omega)))|fail))
 all_goals exact ret1 [] (.int rfl) rfl rfl rfl
theorem zod (a b:Int):zam Tryz.prog 198 [.r (.v (.int .i64 a)),.r (.v (.int .i64 b))] [] (.r (.v (.int .u64 ((a-b)%18446744073709551616)))) []:=by
 refine zaA Tryz.func198 rfl (Nat.le_of_ble_eq_true rfl) rfl rfl ?_
 have c1:IntKind.u64.wrap a=a%18446744073709551616:=IntKind.wrap_u64 _
 have c0:IntKind.u64.wrap b=b%18446744073709551616:=IntKind.wrap_u64 _
 have c2:IntKind.u64.wrap (a%18446744073709551616-b%18446744073709551616)=(a-b)%18446744073709551616:=by rw[IntKind.wrap_u64];omega
 (repeat' (first|refine zad ?_|(refine zac (fun hb=>?_) (fun hb=>?_)<;>(try(exfalso;omega)))|fail))
 all_goals exact ret1 [] (.int rfl) rfl rfl rfl
def midv (a b:Int):Int:=IntKind.i64.wrap (bits .and .i64 a b+(bits .xor .i64 a b).fdiv (2^(min (1:Int).toNat (IntKind.bits .i64))))
theorem znc (a b:Int):In64 (midv a b):=by unfold midv In64;rw[IntKind.wrap_i64];omega
theorem zoS (a b:Int):zam Tryz.prog 283 [.r (.v (.int .i64 a)),.r (.v (.int .i64 b))] [] (.r (.v (.int .i64 (midv a b)))) []:=by
 refine zaA Tryz.func283 rfl (Nat.le_of_ble_eq_true rfl) rfl rfl ?_
 have e:midv a b=midv a b:=rfl
 (repeat' (first|refine zad ?_|(refine zac (fun hb=>?_) (fun hb=>?_)<;>(try(exfalso;omega)))|fail))
 all_goals exact ret1 [] (.int rfl) rfl rfl rfl
theorem zoR:(Tryz.prog.info? 2).map (fun i=>(i.zero,i.size,i.bytes))=some (some (.int .i64 0),1,8):=by kernel_rfl
theorem zhM:∃i,Tryz.prog.info? 2=some i∧i.zero=some (.int .i64 0)∧i.size=1∧i.bytes=8:=by
 have h:=zoR
 cases hi:Tryz.prog.info? 2 with
 |none=>rw[hi]at h;cases h
 |some i=>
  rw[hi]at h
  simp only[Option.map_some,Option.some.injEq,Prod.mk.injEq]at h
  exact⟨i,rfl,h.1,h.2.1,h.2.2⟩
theorem ziZ (ad:Addr) (n c:Nat) (news:List Value) (w:World) (hl:news.length=n*1) (hn:n≤8796093022000) (hc:∀j u,news[j]? =some u→w.cell? (ad.add j)=some u) (h1:∀u∈news,u.oneCell'=true):
  Calls Tryz.prog 196 #[.slice (some ad) n c] w fun e w'=>∃v',e= .returned v'∧w'.ownsRow w.heap.size 2 1 v' n news∧Below w.heap.size w w':=by
 obtain⟨i0,hi,hz0,hz1,hz2⟩:=zhM
 have A:Aside (∀j u,news[j]? =some u→w.cell? (ad.add j)=some u):=hc
 clear hc
 have q43:∀(w:World) (a:Option Addr) (n c n' c':Nat),(binOp .eql 60 (.slice a n c) (.slice none n' c')).run Tryz.prog w= .ok (.bool a.isNone) w:=fun w a n c n' c'=>Lib.run_eql_slice_nil w _ _ a n c n' c' Tryz.underlying60
 go_enter Tryz.func196,Tryz.ntmps196
 go_wp2_with (at_builtin;refine wpList_append_own _ rfl (.tmp 5) (.tmp 6) 60 rfl w.heap.size 2 i0 _ 1 8 Tryz.underlying60 hi hz0 hz1 hz2 rfl (by decide) _ 0 [] rfl (World.ownsRow_made w #[] 0 (Nat.le_refl _) (Nat.zero_le _) (by simp)) ad n c news rfl ?qc1 ?qc2 ?qc3 ?qc4 ?qc5 ?qc6 ?_)
 case qc1=>exact hl
 case qc2=>
  intro j u hj
  exact(World.cell?_of_block (Below.heap_alloc _ _ _ (block_lt_of_cell (A.out j u hj)))).trans (A.out j u hj)
 case qc3=>exact h1
 case qc4=>rw[Nat.zero_add];unfold maxLen;omega
 case qc5=>rw[Nat.zero_add];omega
 case qc6=>simp
 intro v' w1 hown hgrow hnil
 go_wp2
 go_ret
 exact⟨v',rfl,by simpa using hown,((Below.refl _ w).alloc (Nat.le_refl _) _).grown hgrow (by simp) (by intro k hk;simp[Value.ownBlock]at hk;omega)⟩
theorem zi0 (n c:Nat) (w:World):Calls Tryz.prog 196 #[.slice none n c] w fun e w'=>e= .returned (.slice none 0 0)∧w'=w:=by
 have q43:∀(w:World) (a:Option Addr) (n c n' c':Nat),(binOp .eql 60 (.slice a n c) (.slice none n' c')).run Tryz.prog w= .ok (.bool a.isNone) w:=fun w a n c n' c'=>Lib.run_eql_slice_nil w _ _ a n c n' c' Tryz.underlying60
 go_enter Tryz.func196,Tryz.ntmps196
 go_wp2
 go_ret
 exact⟨rfl,rfl⟩
theorem zgM {k T sz:Nat} {Z:Nat→Value} {M:Nat→Prop} {w w':World} {v:Value} {es:List (List RV)} {us:List Value} (ho:w'.ownsRow w.heap.size T sz v es.length us) (hu:∀B,RVs B w' es.flatten us) (he:∀e∈es,e.length=sz) (hb:Below w.heap.size w w'):After k (zaq k [] (.fr T sz es) []) Z M w v w':=by
 have ho0:w'.ownsRow 0 T sz v es.length us:=⟨ho.1,ho.2.imp id fun⟨g,cap,cur,e1,_,r⟩=>⟨g,cap,cur,e1,Nat.zero_le _,r⟩⟩
 refine⟨fun i=>if i=k then v else Z i,fun i hi=>?_,?_,fun i b h=>by simp[zaq,zaM]at h,fun j b hj=>?_,fun j j' x hj hj' hne=>?_,fun j x hj hx=>.inl ?_,Go.Ab.Upto.of_below hb⟩
 ·have :i≠k:=by simp[zaq,AV.unfr]at hi;omega
  simp[this]
 ·simp[zaq,AV.unfr,AV.rep]
 ·cases j with
  |zero=>
   simp[zaq,AV.unfr]at hj
   subst hj
   refine⟨us,?_,hu _,he⟩
   simp only[Nat.add_zero,if_pos]
   exact ho0
  |succ j=>simp[zaq,AV.unfr]at hj
 ·simp[zaq,AV.unfr]at hj hj';omega
 ·have :j=0:=by simpa[zaq,AV.unfr]using hj
  subst this
  simp only[Nat.add_zero,if_pos]at hx
  rcases ho.2 with⟨e,_⟩|⟨g,cap,cur,e1,hg,_⟩
  ·rw[e]at hx;simp[blk]at hx
  ·rw[e1]at hx;simp[blk]at hx;omega
theorem ziE (B:Nat→Prop) (w:World):∀l:List Int,RVs B w (nums .i64 l).flatten (l.map (Value.int .i64))
 |[]=>.nil
 |b::l=>by
  rw[nums,List.map_cons,List.flatten_cons,List.map_cons]
  exact .cons rfl (by rw[RV.rep]) (ziE B w l)
theorem zg7 {B:Nat→Prop} {w:World}:∀(l:List Int) (us:List Value),RVs B w (nums .i64 l).flatten us→us=l.map (Value.int .i64)
 |[],us,h=>by cases h;rfl
 |b::l,us,h=>by
  rw[nums,List.map_cons,List.flatten_cons]at h
  cases h with
  |cons h1 h2 h3=>
   rw[RV.rep]at h2
   rw[h2,zg7 l _ h3];rfl
theorem zlo (l:List Int) (hl:l.length≤8796093022000):zam Tryz.prog 196 [.r (.sl 1 (nums .i64 l))] [] (.fr 2 1 (nums .i64 l)) []:=by
 intro w Z M k us hM hk hargs _ _
 simp only[AV.reps,AV.rep]at hargs
 obtain⟨u,us',rfl,h1,rfl⟩:=hargs
 have hn:=zao .i64 l
 have he:∀e∈nums .i64 l,e.length=1:=fun e he=>by simp only[nums,List.mem_map]at he;obtain⟨b,_,rfl⟩:=he;rfl
 rw[RV.rep]at h1
 obtain⟨A,c,rfl,h2,h3,h4,h5⟩:=h1
 cases A with
 |none=>
  have h0:nums .i64 l=[]:=by
   rcases List.eq_nil_or_concat (nums .i64 l)with h|h
   ·exact h
   ·obtain⟨ad,e,_⟩:=h5 (by obtain⟨a,b,e⟩:=h;rw[e];simp);cases e
  refine(zi0 _ c w).mono fun e w' ⟨he1,hw⟩=>⟨_,he1,?_⟩
  rw[h0]
  refine zgM (us:=[]) ?_ (fun B=>.nil) (fun e h=>by cases h) (hw▸Below.refl _ _)
  exact World.ownsRow_nil _ _ _ _
 |some ad=>
  have hcells:∀j u,(l.map (Value.int .i64))[j]? =some u→w.cell? (ad.add j)=some u:=by
   by_cases h0:nums .i64 l=[]
   ·have :l=[]:=by cases l with
     |nil=>rfl
     |cons x l=>simp[nums]at h0
    subst this
    intro j u hj;simp at hj
   ·obtain⟨ad',e,_,_,h6⟩:=h5 h0
    cases e
    rw[RV.rows_flat,RV.row_vals]at h6
    obtain⟨us,h7,h8⟩:=h6
    have :=zg7 l us h7
    intro j u hj
    have h9:=h8 j u (by rw[this];exact hj)
    rwa [Nat.zero_add]at h9
  rw[hn]
  refine(ziZ ad l.length c (l.map (Value.int .i64)) w (by simp) hl hcells (fun u hu=>by obtain⟨x,_,rfl⟩:=List.mem_map.1 hu;rfl)).mono fun e w' ⟨v',e1,ho,hb⟩=>⟨v',e1,?_⟩
  exact zgM (us:=l.map (Value.int .i64)) (by rw[hn];exact ho) (fun B=>ziE B w' l) he hb
end Go.Proofs.YthiioppfnmcclaaGreat
