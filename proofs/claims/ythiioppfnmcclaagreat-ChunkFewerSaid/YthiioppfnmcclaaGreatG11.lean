/- Texts of the second layer in one: Vc1 Wd2 Wd3 Wd4 Wd5 Wd6. -/
import Derived.Test.YthiioppfnmcclaaGreatG4
import Derived.Laws.BitsAllLaws
import Derived.Test.YthiioppfnmcclaaGreatG5
import Derived.Test.YthiioppfnmcclaaGreatG3
import Derived.Test.YthiioppfnmcclaaGreatG10
import Derived.Lib.Mul64
import Derived.Laws.Bits64b
import Derived.Laws.Externs
set_option maxRecDepth 100000
set_option linter.unusedVariables false
set_option linter.unusedSimpArgs false
namespace Go.Proofs.YthiioppfnmcclaaGreat
open Go.RowKit Go.Ab
def vbn:Nat→Nat→List UInt8
 |0,v=>[UInt8.ofNat v]
 |k+1,v=>if v<128 then[UInt8.ofNat v]else UInt8.ofNat (v%128+128)::vbn k (v/128)
def vb (v:Nat):List UInt8:=vbn 9 v
theorem zk9 (k v:Nat) (h:v<128):vbn k v=[UInt8.ofNat v]:=by
 cases k with
 |zero=>rfl
 |succ k=>rw[vbn,if_pos h]
theorem zh9:∀k v,1≤(vbn k v).length∧(vbn k v).length≤k+1
 |0,v=>by simp[vbn]
 |k+1,v=>by
  rw[vbn]
  split
  ·simp
  ·have :=zh9 k (v/128)
   simp;omega
theorem zbe (v:Nat):1≤(vb v).length∧(vb v).length≤10:=zh9 9 v
theorem znP (v:Nat):bits .or .u8 ((v%256:Nat):Int) 128=((v%128+128:Nat):Int):=by
 have h:=u8_or_nat (v%256) 128 (by omega) (by omega)
 have e:v%256 |||128=v%128+128:=by
  have :v%128=v%256%128:=by omega
  rw[this]
  have key:∀x,x<256→x |||128=x%128+128:=by decide+kernel
  exact key _ (by omega)
 rw[e]at h
 exact h
theorem zhp (x:Nat) (h:x<256):([[.v (.int .u8 (x:Int))]]:List (List RV))=bys [UInt8.ofNat x]:=by
 have :((UInt8.ofNat x).toNat:Int)=x:=by rw[UInt8.toNat_ofNat'];omega
 rw[bys,List.map_cons,List.map_nil,this]
def zz (v:Int):Nat:=if 0≤v then(2*v).toNat else(-2*v-1).toNat
def uz (v:Nat):Int:=if v%2=0 then((v/2:Nat):Int)else -((v/2:Nat):Int)-1
theorem znX (v:Int):uz (zz v)=v:=by
 unfold uz zz
 split <;>split <;>omega
theorem zjy {v:Int} (h:I64 v):zz v<18446744073709551616:=by
 unfold I64 at h
 unfold zz
 split <;>omega
def cnt:Nat→List UInt8→Nat
 |0,_=>0
 |_+1,[]=>0
 |f+1,b::r=>if b.toNat<128 then 0 else cnt f r+1
theorem zdM:∀(f:Nat) (R:List UInt8),cnt f R≤f∧cnt f R≤R.length∧(∀i,i<cnt f R→128≤(R.getD i 0).toNat)∧(cnt f R<f→cnt f R<R.length→(R.getD (cnt f R) 0).toNat<128)
 |0,R=>⟨Nat.le_refl _,Nat.zero_le _,fun i h=>by simp[cnt]at h,fun h=>by simp[cnt]at h⟩
 |f+1,[]=>⟨Nat.zero_le _,Nat.le_refl _,fun i h=>by simp[cnt]at h,fun _ h=>by simp[cnt]at h⟩
 |f+1,b::r=>by
  rw[cnt]
  split
  ·rename_i hb
   exact⟨Nat.zero_le _,Nat.zero_le _,fun i h=>by omega,fun _ _=>by simpa using hb⟩
  ·rename_i hb
   obtain⟨h1,h2,h3,h4⟩:=zdM f r
   refine⟨by omega,by simp;omega,fun i hi=>?_,fun h5 h6=>?_⟩
   ·cases i with
    |zero=>simp;omega
    |succ i=>simpa using h3 i (by omega)
   ·simpa using h4 (by omega) (by simpa using h6)
def gv:List UInt8→Nat
 |[]=>0
 |b::r=>b.toNat%128+128*gv r
theorem zhI:∀(g:List UInt8) (x:UInt8),gv (g++[x])=gv g+128^g.length*(x.toNat%128)
 |[],x=>by simp[gv]
 |b::r,x=>by
  rw[List.cons_append,gv,gv,zhI r x,List.length_cons,Nat.pow_succ,Nat.mul_add,←Nat.mul_assoc,Nat.mul_comm 128 (128^r.length)]
  omega
theorem zlz:∀(g:List UInt8),gv g<128^g.length
 |[]=>by simp[gv]
 |b::r=>by
  have :=zlz r
  rw[gv,List.length_cons,Nat.pow_succ]
  omega
def rdN (b:List UInt8) (a:Int):Nat×Int×Nat:=
 if a<0∨(b.length:Int)<a then(0,0,2)
 else
  let R:=b.drop a.toNat
  let e:=cnt 10 R
  if e=10 then(0,0,5)
  else if e=R.length then(0,0,4)
  else if(0<e∧(R.getD e 0).toNat=0)∨(e=9∧1<(R.getD e 0).toNat)then(0,0,5)
  else(gv (R.take (e+1)),a+((e+1:Nat):Int),0)
theorem zkx (b:List UInt8) (a:Int) (h:a<0∨(b.length:Int)<a):rdN b a=(0,0,2):=if_pos h
theorem zky (b:List UInt8) (n:Nat) (h:n≤b.length) (h1:cnt 10 (b.drop n)=10):rdN b (n:Int)=(0,0,5):=by
 unfold rdN
 rw[if_neg (by omega)]
 simp only[Int.toNat_natCast]
 rw[if_pos h1]
theorem zkv (b:List UInt8) (n:Nat) (h:n≤b.length) (h1:cnt 10 (b.drop n)≠10) (h2:cnt 10 (b.drop n)=(b.drop n).length):rdN b (n:Int)=(0,0,4):=by
 unfold rdN
 rw[if_neg (by omega)]
 simp only[Int.toNat_natCast]
 rw[if_neg h1,if_pos h2]
theorem zku (b:List UInt8) (n:Nat) (h:n≤b.length) (h1:cnt 10 (b.drop n)≠10) (h2:cnt 10 (b.drop n)≠(b.drop n).length)
  (h3:(0<cnt 10 (b.drop n)∧((b.drop n).getD (cnt 10 (b.drop n)) 0).toNat=0)∨(cnt 10 (b.drop n)=9∧1<((b.drop n).getD (cnt 10 (b.drop n)) 0).toNat)):rdN b (n:Int)=(0,0,5):=by
 unfold rdN
 rw[if_neg (by omega)]
 simp only[Int.toNat_natCast]
 rw[if_neg h1,if_neg h2,if_pos h3]
theorem zkw (b:List UInt8) (n:Nat) (h:n≤b.length) (h1:cnt 10 (b.drop n)≠10) (h2:cnt 10 (b.drop n)≠(b.drop n).length)
  (h3:¬((0<cnt 10 (b.drop n)∧((b.drop n).getD (cnt 10 (b.drop n)) 0).toNat=0)∨(cnt 10 (b.drop n)=9∧1<((b.drop n).getD (cnt 10 (b.drop n)) 0).toNat))):
  rdN b (n:Int)=(gv ((b.drop n).take (cnt 10 (b.drop n)+1)),(n:Int)+((cnt 10 (b.drop n)+1:Nat):Int),0):=by
 unfold rdN
 rw[if_neg (by omega)]
 simp only[Int.toNat_natCast]
 rw[if_neg h1,if_neg h2,if_neg h3]
theorem zoh (g:List UInt8) (h:g.length≤10) (h10:g.length=10→(g.getD 9 0).toNat≤1):gv g<18446744073709551616:=by
 rcases Nat.lt_or_ge g.length 10 with h1|h1
 ·refine Nat.lt_of_lt_of_le (zlz g) (Nat.le_trans (Nat.pow_le_pow_right (by omega) (show g.length≤9 by omega)) ?_)
  rw[show(128:Nat)^9=9223372036854775808 from rfl]
  omega
 ·have hl:g.length=10:=by omega
  have e:g=g.take 9++[g.getD 9 0]:=by
   have :=zaI g 9 0 (by omega)
   rw[List.take_of_length_le (by omega)]at this
   exact this
  have h9:=h10 hl
  generalize g.getD 9 0=x at *
  have hl9:(g.take 9).length=9:=by rw[List.length_take];omega
  have hb:=zlz (g.take 9)
  rw[e,zhI]
  rw[hl9]at hb ⊢
  rw[show(128:Nat)^9=9223372036854775808 from rfl]at hb ⊢
  omega
/-! The program's groups -/
theorem zj0 (R:List UInt8):cnt 10 R≤(R.take 10).length∧(∀i,i<cnt 10 R→128≤((R.take 10).getD i 0).toNat)∧(cnt 10 R<(R.take 10).length→((R.take 10).getD (cnt 10 R) 0).toNat<128):=by
 obtain⟨h1,h2,h3,h4⟩:=zdM 10 R
 have hl:(R.take 10).length=min 10 R.length:=List.length_take
 have hg:∀i,i<10→(R.take 10).getD i 0=R.getD i 0:=fun i hi=>by simp[List.getElem?_take,hi]
 refine⟨by omega,fun i hi=>?_,fun h=>?_⟩
 ·rw[hg i (by omega)];exact h3 i hi
 ·rw[hg _ (by omega)];exact h4 (by omega) (by omega)
theorem zoo (v x k:Nat) (hv:v<128^k) (h:v+x*128^k<18446744073709551616):bits .or .u64 (v:Int) ((x*128^k:Nat):Int)=((v+x*128^k:Nat):Int):=by
 have e:128^k=2^(7*k):=by rw[show(128:Nat)=2^7 from rfl,Nat.pow_mul]
 rw[u64_or_nat _ _ (by omega) (by omega)]
 rw[e]at hv ⊢
 rw[Nat.or_comm,Nat.mul_comm x,←Nat.two_pow_add_eq_or_of_lt hv,Nat.add_comm]
theorem zg1 (g:List UInt8) (k:Nat) (h:k<g.length):gv (g.take (k+1))=gv (g.take k)+(g.getD k 0).toNat%128*128^k:=by
 rw[zaI g k 0 h,zhI,List.length_take,Nat.min_eq_left (by omega),Nat.mul_comm]
theorem zfO:∀(g:List UInt8) (k:Nat),gv (g.take k)≤gv g
 |_,0=>by simp[gv]
 |[],k+1=>by simp
 |b::r,k+1=>by
  have :=zfO r k
  rw[List.take_succ_cons,gv,gv]
  omega
def rdS (b:List UInt8) (a:Int):Int×Int×Nat:=if(rdN b a).2.2=0 then(uz (rdN b a).1,(rdN b a).2.1,0)else(0,0,(rdN b a).2.2)
theorem zfv (b:List UInt8) (a:Int):(rdN b a).1<18446744073709551616∧(rdN b a).2.2≤5∧((rdN b a).2.2≠0→(rdN b a).1=0∧(rdN b a).2.1=0)∧((rdN b a).2.2=0→0≤a∧a<(rdN b a).2.1∧(rdN b a).2.1≤(b.length:Int)):=by
 by_cases hout:a<0∨(b.length:Int)<a
 ·rw[zkx b a hout];exact⟨by decide,by decide,fun _=>⟨rfl,rfl⟩,fun h=>by cases h⟩
 ·obtain⟨n,rfl⟩:=Int.eq_ofNat_of_zero_le (show 0≤a by omega)
  have hn:n≤b.length:=by omega
  obtain⟨f1,f2,_,_⟩:=zdM 10 (b.drop n)
  have hdl:(b.drop n).length=b.length-n:=List.length_drop
  by_cases h1:cnt 10 (b.drop n)=10
  ·rw[zky b n hn h1];exact⟨by decide,by decide,fun _=>⟨rfl,rfl⟩,fun h=>by cases h⟩
  by_cases h2:cnt 10 (b.drop n)=(b.drop n).length
  ·rw[zkv b n hn h1 h2];exact⟨by decide,by decide,fun _=>⟨rfl,rfl⟩,fun h=>by cases h⟩
  by_cases h3:(0<cnt 10 (b.drop n)∧((b.drop n).getD (cnt 10 (b.drop n)) 0).toNat=0)∨(cnt 10 (b.drop n)=9∧1<((b.drop n).getD (cnt 10 (b.drop n)) 0).toNat)
  ·rw[zku b n hn h1 h2 h3];exact⟨by decide,by decide,fun _=>⟨rfl,rfl⟩,fun h=>by cases h⟩
  rw[zkw b n hn h1 h2 h3]
  have hgl:((b.drop n).take (cnt 10 (b.drop n)+1)).length=cnt 10 (b.drop n)+1:=by rw[List.length_take];omega
  refine⟨zoh _ (by omega) (fun h=>?_),Nat.zero_le _,fun h=>absurd rfl h,fun _=>⟨by omega,?_,?_⟩⟩
  ·have h9:cnt 10 (b.drop n)=9:=by omega
   rw[h9]at h3 ⊢
   have e:((b.drop n).take (9+1)).getD 9 0=(b.drop n).getD 9 0:=by simp[List.getElem?_take]
   rw[e];omega
  ·show(n:Int)<(n:Int)+_;omega
  ·show(n:Int)+((cnt 10 (b.drop n)+1:Nat):Int)≤_;omega
theorem zgg (x:Nat) (h:x<256):(UInt8.ofNat x).toNat=x:=by rw[UInt8.toNat_ofNat'];omega
theorem ziM:∀(k v:Nat) (r:List UInt8) (f:Nat),v<2*128^k→k<f→
  cnt f (vbn k v++r)+1=(vbn k v).length∧gv (vbn k v)=v∧(1≤v→1≤((vbn k v).getD ((vbn k v).length-1) 0).toNat)∧((vbn k v).length=k+1→((vbn k v).getD k 0).toNat<2)
 |0,v,r,f,h,hf=>by
  have hv:v<2:=by simpa using h
  obtain⟨f,rfl⟩:∃g,f=g+1:=⟨f-1,by omega⟩
  have e:=zgg v (by omega)
  refine⟨?_,?_,fun h1=>?_,fun _=>?_⟩
  ·simp only[vbn,List.singleton_append,cnt,List.length_singleton];rw[e,if_pos (by omega)]
  ·simp only[vbn,gv];rw[e];omega
  ·simp only[vbn,List.length_singleton];show 1≤(UInt8.ofNat v).toNat;omega
  ·simp only[vbn];show(UInt8.ofNat v).toNat<2;omega
 |k+1,v,r,f,h,hf=>by
  obtain⟨f,rfl⟩:∃g,f=g+1:=⟨f-1,by omega⟩
  rw[vbn]
  split
  ·rename_i h1
   have e:=zgg v (by omega)
   refine⟨?_,?_,fun h1=>?_,fun h=>by simp at h⟩
   ·simp only[List.singleton_append,cnt,List.length_singleton];rw[e,if_pos (by omega)]
   ·simp only[gv];rw[e];omega
   ·simp only[List.length_singleton];show 1≤(UInt8.ofNat v).toNat;omega
  ·rename_i h1
   have e:=zgg (v%128+128) (by omega)
   have hv:v/128<2*128^k:=by rw[Nat.pow_succ]at h;omega
   obtain⟨g1,g2,g3,g4⟩:=ziM k (v/128) r f hv (by omega)
   have hl:=zh9 k (v/128)
   have hg:∀j,((UInt8.ofNat (v%128+128)::vbn k (v/128)).getD (j+1) 0)=(vbn k (v/128)).getD j 0:=fun j=>by simp
   refine⟨?_,?_,fun _=>?_,fun h=>?_⟩
   ·simp only[List.cons_append,cnt,List.length_cons];rw[e,if_neg (by omega)];omega
   ·simp only[gv];rw[e,g2];omega
   ·rw[List.length_cons,Nat.add_sub_cancel,show(vbn k (v/128)).length=(vbn k (v/128)).length-1+1 by omega,hg]
    exact g3 (by omega)
   ·rw[hg];exact g4 (by simpa using h)
theorem zou (p r:List UInt8) (v:Nat) (hv:v<18446744073709551616):rdN (p++vb v++r) (p.length:Int)=(v,(p.length:Int)+((vb v).length:Int),0):=by
 obtain⟨g1,g2,g3,g4⟩:=ziM 9 v r 10 (by rw[show(2:Nat)*128^9=18446744073709551616 from rfl];exact hv) (by omega)
 have hl:=zbe v
 change cnt 10 (vb v++r)+1=(vb v).length at g1
 change gv (vb v)=v at g2
 change 1≤v→1≤((vb v).getD ((vb v).length-1) 0).toNat at g3
 change(vb v).length=10→((vb v).getD 9 0).toNat<2 at g4
 have hd:(p++vb v++r).drop p.length=vb v++r:=by rw[List.append_assoc,List.drop_left]
 have hlen:(p++vb v++r).length=p.length+(vb v).length+r.length:=by simp only[List.length_append]
 have hz:(vb v).length≠1→1≤v:=fun h=>by
  rcases Nat.eq_zero_or_pos v with h0|h0
  ·subst h0;exact absurd rfl h
  ·exact h0
 have hgd:(vb v++r).getD (cnt 10 (vb v++r)) 0=(vb v).getD ((vb v).length-1) 0:=by
  rw[show cnt 10 (vb v++r)=(vb v).length-1 by omega]
  simp[List.getElem?_append_left (show(vb v).length-1<(vb v).length by omega)]
 have :=zkw (p++vb v++r) p.length (by omega) (by rw[hd];omega) (by rw[hd,List.length_append];omega) (by
  rw[hd,hgd]
  rintro(⟨h1,h2⟩|⟨h1,h2⟩)
  ·have :=g3 (hz (by omega));omega
  ·rw[show(vb v).length-1=9 by omega]at h2;have :=g4 (by omega);omega)
 rw[this,hd,show cnt 10 (vb v++r)+1=(vb v).length by omega,List.take_left,g2]
end Go.Proofs.YthiioppfnmcclaaGreat
namespace Go.Proofs.YthiioppfnmcclaaGreat
open Go.RowKit Go.Ab Go.Wd
theorem zgE (a:Nat) (ha:a<18446744073709551616):bits .and .u64 (a:Int) 4294967295=((a%4294967296:Nat):Int):=by
 have h:=bits_and_u64_nat a 4294967295 ha (by omega)
 have e:a &&& 4294967295=a%4294967296:=Nat.and_two_pow_sub_one_eq_mod a 32
 rw[e]at h
 exact h
theorem zd7 (a:Nat):(a:Int).fdiv (2^(min (32:Int).toNat (IntKind.bits .u64)))=((a/4294967296:Nat):Int):=by
 rw[show min (32:Int).toNat (IntKind.bits .u64)=32 from rfl,Int.fdiv_eq_ediv_of_nonneg _ (by omega)]
 omega
theorem ze0 (a b:Nat) (h:a*b<18446744073709551616):IntKind.u64.wrap ((a:Int)*(b:Int))=((a*b:Nat):Int):=by
 rw[←Int.natCast_mul,IntKind.wrap_u64];omega
theorem zeZ (a b:Nat) (h:a+b<18446744073709551616):IntKind.u64.wrap ((a:Int)+(b:Int))=((a+b:Nat):Int):=by
 rw[IntKind.wrap_u64];omega
theorem zmm (a b:Nat):IntKind.u64.wrap ((a:Int)*(b:Int))=((a*b%18446744073709551616:Nat):Int):=by
 rw[←Int.natCast_mul,IntKind.wrap_u64];omega
theorem zne (x y:Nat) (hx:x<B64) (hy:y<B64):zam Tryz.prog 169 [.r (.v (.int .u64 (x:Int))),.r (.v (.int .u64 (y:Int)))] [] (.tu [.r (.v (.int .u64 ((x*y/B64:Nat):Int))),.r (.v (.int .u64 ((x*y%B64:Nat):Int)))]) []:=by
 refine zaA Tryz.func169 rfl (Nat.le_of_ble_eq_true rfl) rfl rfl ?_
 obtain⟨bd,bt,bw,hhi⟩:=Lib.mul64_hi x y hx hy
 have ba:=Lib.half_mul_le (a:=x/4294967296) (b:=y/4294967296) (by unfold B64 at *;omega) (by unfold B64 at *;omega)
 have bb:=Lib.half_mul_le (a:=x/4294967296) (b:=y%4294967296) (by unfold B64 at *;omega) (by omega)
 have bc:=Lib.half_mul_le (a:=x%4294967296) (b:=y/4294967296) (by omega) (by unfold B64 at *;omega)
 have m1:=zgE x hx
 have m2:=zgE y hy
 have s1:=zd7 x
 have s2:=zd7 y
 have p4:=zmm x y
 generalize hx0:x%4294967296=x0 at *
 generalize hx1:x/4294967296=x1 at *
 generalize hy0:y%4294967296=y0 at *
 generalize hy1:y/4294967296=y1 at *
 have p1:=ze0 x0 y0 (by omega)
 have p2:=ze0 x1 y0 (by omega)
 have p3:=ze0 x0 y1 (by omega)
 have p5:=ze0 x1 y1 (by omega)
 have s3:=zd7 (x0*y0)
 have a1:=zeZ (x1*y0) (x0*y0/4294967296) bt
 generalize x1*y0+x0*y0/4294967296=tt at *
 have m3:=zgE tt bt
 have s4:=zd7 tt
 have a2:=zeZ (tt%4294967296) (x0*y1) bw
 generalize tt%4294967296+x0*y1=w1 at *
 have s5:=zd7 w1
 have a3:=zeZ (x1*y1) (tt/4294967296) (by omega)
 have a4:=zeZ (x1*y1+tt/4294967296) (w1/4294967296) (by omega)
 rw[hhi]at a4
 generalize x1*y1+tt/4294967296=v at *
 generalize x0*y1=q1 at *
 generalize x1*y1=q2 at *
 generalize x1*y0=q3 at *
 generalize x0*y0=q4 at *
 (repeat' (first|refine zeU ?_|(refine zac (fun hb=>?_) (fun hb=>?_)<;>(try(exfalso;omega)))|fail))
 all_goals exact ret2 [] (.int rfl) (.int rfl) rfl rfl rfl rfl
section
variable {env:Nat→AV} {H:Nat→Option Blk} {d:Option Tmp} {ty:TypeId} {pos:String} {af:Array Edge} {g:Option (Nat×Bool)} {x y z:Operand} {t1 t2 t3:TypeId}
end
def wns (l:List Nat):List (List RV):=l.map fun(a:Nat)=>[.v (.int .u64 (a:Int))]
theorem zbu (l:List Nat):(wns l).length=l.length:=by unfold wns;simp
theorem zch {l:List Nat} {i:Nat} (h:i<l.length):(wns l)[i]? =some [.v (.int .u64 (l.getD i 0:Nat))]:=by unfold wns;simp[h]
theorem zle (l:List Nat) (i v:Nat):(wns l).set i [.v (.int .u64 (v:Int))]=wns (l.set i v):=by unfold wns;rw[List.map_set]
theorem zaE (a:Nat) (h:a+1<9223372036854775808):IntKind.i64.wrap ((a:Int)+1)=((a+1:Nat):Int):=by rw[IntKind.wrap_i64];omega
theorem Rt.agR {H:Nat→Option Blk} {L:Nat} {G:List Nat}:∀(cs:List RV),RtL H L G (cs.map .r) (cs.map .r) []
 |[]=>.nil
 |c::cs=>.cons _ _ _ _ [] [] (.r c) (Rt.agR cs)
end Go.Proofs.YthiioppfnmcclaaGreat
