/- Texts of the second layer in one: Ab27 Un Rel Pk1 Rs1 Wd1. -/
import Derived.Test.YthiioppfnmcclaaGreatG4
import Derived.Test.YthiioppfnmcclaaGreatAu
import Derived.Deep.Quiet
import Derived.BigQuiet
import Derived.Below
import Derived.KernelRfl
import Derived.Laws.Rows
import Derived.StillTail
set_option linter.unusedVariables false
set_option linter.unusedSimpArgs false
namespace Go.Ab
open Go.RowKit
section
variable {P:Program} {L:Ln} {N:Nat} {ops:Array Oper} {chk:List (Nat×Sp)→Bool} {Q:St→Prop} {S:St} {tr:List (Nat×Sp)} {l:List Oper} {d:Option Tmp} {ty:TypeId} {pos:String} {af:Array Edge} {g:Option (Nat×Bool)} {t t2:TypeId} {x y:Operand}
end
end Go.Ab
namespace Go.Proofs.YthiioppfnmcclaaGreat
def I64 (x:Int):Prop:= -9223372036854775808≤x∧x<9223372036854775808
def allR (n:Nat) (f:Nat→Bool):Bool:=(List.range n).all f
theorem zgN {n:Nat} {f:Nat→Bool} (h:∀i,i<n→f i=true):true=allR n f:=by
 unfold allR
 exact(List.all_eq_true.2 fun i hi=>h i (List.mem_range.1 hi)).symm
theorem ziT {n:Nat} {f:Nat→Bool} (i:Nat) (h:i<n) (hf:f i=false):false=allR n f:=by
 cases hx:allR n f with
 |false=>rfl
 |true=>
  have :=List.all_eq_true.1 hx i (List.mem_range.2 h)
  rw[hf]at this;cases this
theorem zaI {α:Type} (l:List α) (k:Nat) (d:α) (h:k<l.length):l.take (k+1)=l.take k++[l.getD k d]:=by
 rw[List.take_succ_eq_append_getElem h]
 simp[h]
end Go.Proofs.YthiioppfnmcclaaGreat
namespace Go.Proofs.YthiioppfnmcclaaGreat
open Go.RowKit
def Bel (B:Nat) (w:World):={ w':World//Below B w w'}
instance Bel.some_ (B:Nat) (w:World):Nonempty (Bel B w):=⟨⟨w,Below.refl _ _⟩⟩
theorem Bel.cell {B:Nat} {w:World} (d:Bel B w) {p:Addr} {u:Value} (h:w.cell? p=some u) (hp:p.block<B):d.1.cell? p=some u:=by rw[d.2.cell hp];exact h
structure Upto (M:Nat→Prop) (w w':World):Prop where
 os:w'.os=w.os
 tape:w'.tape=w.tape
 output:w'.output=w.output
 size:w.heap.size≤w'.heap.size
 block:∀k,k<w.heap.size→¬M k→w'.heap[k]? =w.heap[k]?
section
variable {M:Nat→Prop} {a w w':World}
theorem Upto.refl (w:World):Upto M w w:=⟨rfl,rfl,rfl,Nat.le_refl _,fun _ _ _=>rfl⟩
theorem Upto.trans (h:Upto M a w) (k:Upto M w w'):Upto M a w':=
 ⟨k.os.trans h.os,k.tape.trans h.tape,k.output.trans h.output,Nat.le_trans h.size k.size,fun i h1 h2=>(k.block i (Nat.lt_of_lt_of_le h1 h.size) h2).trans (h.block i h1 h2)⟩
theorem Upto.of_below (hb:Below w.heap.size w w'):Upto M w w':=⟨hb.os,hb.tape,hb.output,hb.size,fun k hk _=>hb.block k hk⟩
theorem Upto.below (h:Upto M a w) (hb:Below w.heap.size w w'):Upto M a w':=h.trans (Upto.of_below hb)
theorem Upto.drew (h:Upto M a w):Upto M a w.drew:=h.below (Below.refl _ _).drew
theorem Upto.alloc (h:Upto M a w) (o:Obj):Upto M a (w.alloc o):=h.below ((Below.refl _ _).alloc (Nat.le_refl _) o)
theorem Upto.cell (h:Upto M w w') {p:Addr} {u:Value} (hc:w.cell? p=some u) (hM:¬M p.block):w'.cell? p=some u:=
 (World.cell?_of_block (h.block _ (block_lt_of_cell hc) hM)).trans hc
theorem Upto.to_below (h:Upto (fun _=>False) w w'):Below w.heap.size w w':=⟨h.os,h.tape,h.output,h.size,fun k hk=>h.block k hk (fun f=>f)⟩
end
def BelM (M:Nat→Prop) (w:World):={ w':World//Upto M w w'}
instance BelM.some_ (M:Nat→Prop) (w:World):Nonempty (BelM M w):=⟨⟨w,Upto.refl _⟩⟩
theorem BelM.cell {M:Nat→Prop} {w:World} (d:BelM M w) {p:Addr} {u:Value} (h:w.cell? p=some u) (hp:¬M p.block):d.1.cell? p=some u:=d.2.cell h hp
def znr:Op→Bool
 |.move _|.assign _|.pick _ _ _|.load _ _|.nilCheck _|.binOp _ _ _ _ _|.unOp _ _ _|.convert _ _ _|.fieldAddr _ _ _|.field _ _ _|.indexAddr _ _ _|.index _ _ _|.slice _ _ _ _ _|.extract _ _
 |.makeInterface _ _|.build _ _|.typeAssert _ _ _ _|.lookup _ _ _ _=>true
 |.call { callee:=.builtin .len,.. }=>true
 |.call { callee:=.builtin .min,.. }=>true
 |.call { callee:=.builtin .max,.. }=>true
 |_=>false
section
variable {P:Program} {ops:Array Oper} {md:Region.Mode} {ss:List Tmp} {F:Tmp→Value→World→Prop} {M:Nat→Prop} {w0:World} {St:Tmp→World→World→Prop} {V:Bool→World→Prop}
def zdA (o:Oper):Bool:=match o.op with |.store _ _ _=>true|_=>false
def CB (M:Nat→Prop) (w0:World):World→Prop:=fun w'=>∃d:BelM M w0,w'=d.1
def znL (P:Program) (T:World→World→Prop) (S:Value→World→Prop) (w:World):Result Next→Prop
 |.ok (.value u) w'=>T w w'∧S u w'
 |.ok (.enter f args) w'=>w'=w∧Calls P f args w (fun e w''=>∃v,e= .returned v∧T w w''∧S v w'')
 |_=>False
def zh7 (o:Oper):List Tmp:=o.op.operands.toList.filterMap fun |.tmp t=>some t|_=>none
def ziS (ss:List Tmp) (F:Tmp→Value→World→Prop) (o:Oper) (a:Act) (w:World):Prop:=∀t∈ss,t∈zh7 o→F t (a.tmps.getD t undef) w
def zms (P:Program) (M:Nat→Prop) (w0:World) (ss:List Tmp) (F:Tmp→Value→World→Prop) (o:Oper) (a:Act) (T:World→World→Prop) (S:Value→World→Prop):Prop:=
 ∀w,Upto M w0 w→ziS ss F o a w→znL P T S w ((execOp a.eval o).run P w)
def Stat (V:Bool→World→Prop) (St:Tmp→World→World→Prop) (P:Program) (ops:Array Oper) (M:Nat→Prop) (w0:World) (ss:List Tmp) (F:Tmp→Value→World→Prop) (o:Oper) (a:Act) (R:Value→Prop):Prop:=
 (Region.wanted o (yielded ops a.tmps)=true∧znr o.op=true∧(∀d,o.dst=some d→d∉ss)∧∃v,(∀w,CB M w0 w→o.quietAt P a (CB M w0) w v)∧R=fun u=>u=v)∨
 (Region.wanted o (yielded ops a.tmps)=true∧zdA o=true∧o.dst=none∧(∀w,Upto M w0 w→ziS ss F o a w→V false w→∃w',(execOp a.eval o).run P w= .ok .skip w'∧Upto M w w'∧V true w')∧R=fun u=>u=undef)∨
 (Region.wanted o (yielded ops a.tmps)=true∧zdA o=false∧∃d,o.dst=some d∧d∈ss∧zms P M w0 ss F o a (St d) (F d)∧R=fun v=>∃w,Upto M w0 w∧F d v w)∨
 (Region.wanted o (yielded ops a.tmps)=false∧zdA o=false∧(∀d,o.dst=some d→d∈ss→∀w,F d undef w)∧R=fun u=>u=undef)
structure Inv (ops:Array Oper) (M:Nat→Prop) (w0:World) (ss:List Tmp) (F:Tmp→Value→World→Prop) (listed:Array Bool) (a:Act) (w:World):Prop where
 below:Upto M w0 w
 size:∀d∈ss,d<a.tmps.size
 facts:∀k o d,listed.getD k false=true→ops[k]? =some o→o.dst=some d→d∈ss→F d (a.tmps.getD d undef) w
structure zn4 (md:Region.Mode) (ops:Array Oper) (ss:List Tmp):Prop where
 dist:∀(i j:Nat) (oi oj:Oper) (d:Tmp),ops[i]? =some oi→ops[j]? =some oj→oi.dst=some d→oj.dst=some d→d∈ss→i=j
 dep:∀(i:Nat) (oi:Oper) (t:Tmp),ops[i]? =some oi→t∈zh7 oi→t∈ss→∃e∈oi.after,Region.binds md e=true∧∃o':Oper,ops[e.on]? =some o'∧o'.dst=some t
 back:∀(i:Nat) (oi:Oper),ops[i]? =some oi→∀e∈oi.after,Region.binds md e=true→e.on<i
 cover:∀t∈ss,∃(i:Nat) (oi:Oper),ops[i]? =some oi∧oi.dst=some t
 one:∀(i j:Nat) (oi oj:Oper),ops[i]? =some oi→ops[j]? =some oj→zdA oi=true→zdA oj=true→i=j
theorem zlZ (a:Act) (d:Tmp) (v:Value) (h:d<a.tmps.size):(a.put (some d) v).tmps.getD d undef=v:=by simp[Act.put,h]
theorem zfq (a:Act) (x:Option Tmp) (d:Tmp) (v:Value) (h:x≠some d):(a.put x v).tmps.getD d undef=a.tmps.getD d undef:=by
 cases x with
 |none=>rfl
 |some e=>
  have hne:e≠d:=fun he=>h (he▸rfl)
  simp[Act.put,Array.getElem?_setIfInBounds_ne hne]
theorem zgp (a:Act) (x:Option Tmp) (v:Value):(a.put x v).tmps.size=a.tmps.size:=by cases x<;>simp[Act.put]
theorem zeD {listed:Array Bool} {i k:Nat} (h:i≠k) (b:Bool):(listed.setIfInBounds i true).getD k b=listed.getD k b:=by
 simp[Array.getElem?_setIfInBounds_ne h]
theorem zd5 {o:Oper} {t:Tmp} (h:t∈zh7 o):t∈o.looksAt ops:=List.mem_append_left _ h
theorem Stat.put {o:Oper} {a:Act} {R:Value→Prop} {x:Option Tmp} {u:Value} (hs:∀cs b,o.op≠ .select cs b) (hap:∀d,x=some d→d∉o.looksAt ops):
  Stat V St P ops M w0 ss F o (a.put x u) R↔Stat V St P ops M w0 ss F o a R:=by
 have hk:∀w,ziS ss F o (a.put x u) w↔ziS ss F o a w:=fun w=>by
  unfold ziS
  constructor<;>intro h t ht hto<;>have :=h t ht hto
  ·rwa [zfq a x t u (fun e=>hap t e (zd5 hto))]at this
  ·rwa [zfq a x t u (fun e=>hap t e (zd5 hto))]
 have he:=execOp_put (ops:=ops) o hs a x u hap
 have hw:=wanted_put (ops:=ops) o a x u hap
 unfold Stat zms Oper.quietAt
 simp only[he,hw,hk]
theorem Inv.step (hok:zn4 md ops ss) {listed:Array Bool} {a:Act} {w w':World} {i:Nat} {o:Oper} {v:Value} (hi:ops[i]? =some o)
  (h:Inv ops M w0 ss F listed a w) (hb:Upto M w w') (hkeep:∀t v,o.dst≠some t→F t v w→F t v w') (hv:∀d,o.dst=some d→d∈ss→F d v w'):
  Inv ops M w0 ss F (listed.setIfInBounds i true) (a.put o.dst v) w':=by
 refine⟨h.below.trans hb,fun d hd=>by rw[zgp];exact h.size d hd,fun k ok d hk hok' hd hs=>?_⟩
 by_cases hki:i=k
 ·subst hki
  rw[hi]at hok'
  injection hok' with e
  subst e
  rw[hd,zlZ a d v (h.size d hs)]
  exact hv d hd hs
 ·rw[zeD hki]at hk
  rw[zfq a o.dst d v (fun e=>hki (hok.dist i k o ok d hi hok' e hd hs))]
  exact hkeep _ _ (fun e=>hki (hok.dist i k o ok d hi hok' e hd hs)) (h.facts k ok d hk hok' hd hs)
theorem Inv.known (hok:zn4 md ops ss) {listed:Array Bool} {a:Act} {w:World} {i:Nat} {o:Oper} (hi:ops[i]? =some o) (hr:i∈Region.ready md ops listed) (h:Inv ops M w0 ss F listed a w):ziS ss F o a w:=by
 intro t ht hto
 obtain⟨_,oi,hoi,hall⟩:=mem_ready.1 hr
 rw[hi]at hoi
 injection hoi with e
 subst e
 obtain⟨e,he,hbd,o',ho',hd⟩:=hok.dep i o t hi hto ht
 exact h.facts e.on o' t (hall e he hbd) ho' hd ht
structure InvV (V:Bool→World→Prop) (ops:Array Oper) (M:Nat→Prop) (w0:World) (ss:List Tmp) (F:Tmp→Value→World→Prop) (listed:Array Bool) (a:Act) (w:World):Prop extends Inv ops M w0 ss F listed a w where
 st:∀s o,ops[s]? =some o→zdA o=true→V (listed.getD s false) w
structure Steps (V:Bool→World→Prop) (St:Tmp→World→World→Prop) (M:Nat→Prop) (F:Tmp→Value→World→Prop):Prop where
 v:∀b d w w',V b w→St d w w'→V b w'
 store:∀t v w w',F t v w→Upto M w w'→F t v w'
theorem InvV.of {listed:Array Bool} {a':Act} {w w':World} {i:Nat} {o:Oper} {a:Act} (hi:ops[i]? =some o) (hns:zdA o=false) (h:InvV V ops M w0 ss F listed a w)
  (h':Inv ops M w0 ss F (listed.setIfInBounds i true) a' w') (hV:∀b,V b w→V b w'):InvV V ops M w0 ss F (listed.setIfInBounds i true) a' w':=
 ⟨h',fun s os hs hS=>by
  have hne:i≠s:=by rintro rfl;rw[hi]at hs;injection hs with e;subst e;rw[hns]at hS;cases hS
  rw[zeD hne]
  exact hV _ (h.st s os hs hS)⟩
end
def zmu (M:Nat→Prop) (S:Value→World→Prop):Prop:=∀v w w',S v w→Upto M w w'→S v w'
theorem zmu.const {M:Nat→Prop} (u:Value):zmu M (fun v _=>v=u):=fun _ _ _ h _=>h
end Go.Proofs.YthiioppfnmcclaaGreat
namespace Go.Wd
def bigN (w:Nat):List Nat→Nat
 |[]=>0
 |v::l=>v+2^w*bigN w l
theorem zcA (w n:Nat):w*(n+1)=w+w*n:=by rw[Nat.mul_add,Nat.mul_one,Nat.add_comm]
theorem zf9 (w:Nat):∀l:List Nat,(∀v∈l,v<2^w)→bigN w l<2^(w*l.length)
 |[],_=>by simp[bigN]
 |v::l,h=>by
  have h1:=h v (by simp)
  have h2:=zf9 w l fun x hx=>h x (by simp[hx])
  rw[bigN,List.length_cons,zcA,Nat.pow_add]
  have :2^w*(bigN w l+1)≤2^w*2^(w*l.length):=Nat.mul_le_mul_left _ h2
  rw[Nat.mul_add]at this
  omega
theorem zgO (w v:Nat):∀l:List Nat,bigN w (l++[v])=bigN w l+2^(w*l.length)*v
 |[]=>by simp[bigN]
 |x::l=>by
  rw[List.cons_append,bigN,bigN,zgO w v l,List.length_cons,zcA,Nat.pow_add,Nat.mul_add,Nat.mul_assoc,Nat.add_assoc]
def lb:Nat→Nat→List UInt8
 |0,_=>[]
 |k+1,N=>UInt8.ofNat N::lb k (N/256)
theorem zfQ:∀k N,(lb k N).length=k
 |0,_=>rfl
 |k+1,N=>by rw[lb,List.length_cons,zfQ k]
theorem zin:∀(k N j:Nat),j<k→(lb k N)[j]? =some (UInt8.ofNat (N/256^j))
 |0,_,_,h=>by omega
 |k+1,N,0,_=>by simp[lb]
 |k+1,N,j+1,h=>by rw[lb,List.getElem?_cons_succ,zin k (N/256) j (by omega),Nat.div_div_eq_div_mul,Nat.pow_succ,Nat.mul_comm 256]
def bN:List UInt8→Nat
 |[]=>0
 |c::l=>c.toNat+256*bN l
theorem zjw (c:UInt8):c.toNat<256:=c.toNat_lt
theorem zgF (n:Nat):(UInt8.ofNat n).toNat=n%256:=by simp
theorem zoG {m n:Nat} (h:m%256=n%256):UInt8.ofNat m=UInt8.ofNat n:=UInt8.toNat_inj.1 (by rw[zgF,zgF,h])
theorem zmS:∀b:List UInt8,bN b<256^b.length
 |[]=>by simp[bN]
 |c::l=>by
  have :=zmS l
  have :=zjw c
  rw[bN,List.length_cons,Nat.pow_succ]
  omega
theorem zn5:∀k N,bN (lb k N)=N%256^k
 |0,N=>by simp[lb,bN,Nat.mod_one]
 |k+1,N=>by
  rw[lb,bN,zn5 k,zgF,Nat.pow_succ,Nat.mul_comm (256^k) 256,Nat.mod_mul]
theorem zjB:∀(b:List UInt8) (j:Nat),bN b/256^j%256=(b.getD j 0).toNat
 |[],j=>by simp[bN]
 |c::l,0=>by
  have :=zjw c
  simp only[bN,Nat.pow_zero,Nat.div_one,List.getD_cons_zero]
  omega
 |c::l,j+1=>by
  have hc:=zjw c
  rw[bN,Nat.pow_succ,Nat.mul_comm (256^j),←Nat.div_div_eq_div_mul,show(c.toNat+256*bN l)/256=bN l by omega,zjB l j]
  simp
theorem p256 (j:Nat):(256:Nat)^j=2^(8*j):=by rw[Nat.pow_mul]
theorem zgl (at_:Nat):(2:Nat)^at_=256^(at_/8)*2^(at_%8):=by rw[p256,←Nat.pow_add];congr 1;omega
theorem zm4 (k M at_ n x:Nat) (hM:M<2^at_) (hn:at_%8+n≤8) (hx:x<2^n) (hk:at_/8<k):
  lb k (M+x*2^at_)=(lb k M).set (at_/8) (UInt8.ofNat (M/256^(at_/8)+x*2^(at_%8))):=by
 apply List.ext_getElem?
 intro j
 rcases Nat.lt_or_ge j k with hj|hj
 ·rw[zin k _ j hj]
  by_cases he:at_/8=j
  ·rw[←he,List.getElem?_set_self (by rw[zfQ];exact hk)]
   congr 2
   rw[zgl at_,←Nat.mul_assoc,Nat.mul_comm x,Nat.mul_assoc,Nat.add_mul_div_left _ _ (Nat.pow_pos (by omega))]
  ·rw[List.getElem?_set_ne he,zin k _ j hj]
   congr 1
   rcases Nat.lt_or_ge j (at_/8)with h|h
   ·apply zoG
    obtain⟨d,hd⟩:∃d,at_=8*j+8+d:=⟨at_-(8*j+8),by omega⟩
    have :x*2^at_=256^j*(256*(x*2^d)):=by
     rw[hd,Nat.pow_add,Nat.pow_add,p256 j,show(2:Nat)^8=256 from rfl]
     simp only[Nat.mul_assoc,Nat.mul_comm,Nat.mul_left_comm]
    rw[this,Nat.add_mul_div_left _ _ (Nat.pow_pos (by omega)),Nat.add_mul_mod_self_left]
   ·have h1:M+x*2^at_<2^(at_+n):=by
     have :(x+1)*2^at_≤2^n*2^at_:=Nat.mul_le_mul_right _ hx
     rw[Nat.add_mul,Nat.one_mul]at this
     rw[Nat.pow_add,Nat.mul_comm (2^at_)]
     omega
    have h2:(2:Nat)^(at_+n)≤256^j:=by rw[p256];exact Nat.pow_le_pow_right (by omega) (by omega)
    rw[Nat.div_eq_of_lt (Nat.lt_of_lt_of_le h1 h2),Nat.div_eq_of_lt (by omega)]
 ·rw[List.getElem?_eq_none (by rw[zfQ];exact hj),List.getElem?_eq_none (by rw[List.length_set,zfQ];exact hj)]
theorem znh (c v s n left :Nat) (hs:s<8) (hc:c<2^s) (hv:v<2^left) (hn:n=min (8-s) left):c |||(v%256*2^s%256)=c+v%2^n*2^s:=by
 have e0:(256:Nat)=2^(8-s)*2^s:=by rw[←Nat.pow_add,show 8-s+s=8 by omega]
 have e1:v%256*2^s%256=v%2^(8-s)*2^s:=by
  rw[show v%256*2^s%256=v%256*2^s%(2^(8-s)*2^s) by rw[←e0],Nat.mul_mod_mul_right,Nat.mod_mod_of_dvd _ ⟨2^s,e0⟩]
 have e2:v%2^(8-s)=v%2^n:=by
  rcases Nat.le_total (8-s) left with h|h
  ·rw[hn,Nat.min_eq_left h]
  ·rw[hn,Nat.min_eq_right h,Nat.mod_eq_of_lt hv,Nat.mod_eq_of_lt (Nat.lt_of_lt_of_le hv (Nat.pow_le_pow_right (by omega) h))]
 rw[e1,e2,Nat.or_comm,Nat.mul_comm _ (2^s),←Nat.two_pow_add_eq_or_of_lt hc,Nat.add_comm]
theorem zlg (B at_ k:Nat) (hk:at_%8+k≤8):B/256^(at_/8)%256/2^(at_%8)%2^k=B/2^at_%2^k:=by
 have e0:(256:Nat)=2^(at_%8)*2^(8-at_%8):=by rw[←Nat.pow_add,show at_%8+(8-at_%8)=8 by omega]
 have e1:B/256^(at_/8)%256/2^(at_%8)=B/2^at_%2^(8-at_%8):=by
  rw[show B/256^(at_/8)%256=B/256^(at_/8)%(2^(at_%8)*2^(8-at_%8)) by rw[←e0],Nat.mod_mul_right_div_self,Nat.div_div_eq_div_mul,←zgl]
 rw[e1,Nat.mod_mod_of_dvd _ (Nat.pow_dvd_pow 2 (by omega))]
def unpk (B w n:Nat):List Nat:=(List.range n).map fun i=>B/2^(w*i)%2^w
theorem zcH (B w n:Nat):(unpk B w n).length=n:=by simp[unpk]
theorem znQ (B w n:Nat):∀v∈unpk B w n,v<2^w:=by
 intro v hv
 obtain⟨i,_,rfl⟩:=List.mem_map.1 hv
 exact Nat.mod_lt _ (Nat.pow_pos (by omega))
theorem zk1 (B w n:Nat):unpk B w (n+1)=unpk B w n++[B/2^(w*n)%2^w]:=by simp[unpk,List.range_succ]
theorem zk0 (w:Nat):∀l:List Nat,(∀v∈l,v<2^w)→∀X,unpk (bigN w l+2^(w*l.length)*X) w l.length=l:=by
 intro l h X
 apply List.ext_getElem?
 intro i
 rcases Nat.lt_or_ge i l.length with hi|hi
 ·have hp:∀(l:List Nat) (i:Nat),i<l.length→(∀v∈l,v<2^w)→(bigN w l+2^(w*l.length)*X)/2^(w*i)%2^w=l.getD i 0:=by
   intro l
   induction l with
   |nil=>intro i hi;simp at hi
   |cons v l ih=>
    intro i hi hl
    have hv:=hl v (by simp)
    have e:bigN w (v::l)+2^(w*(v::l).length)*X=v+2^w*(bigN w l+2^(w*l.length)*X):=by
     rw[bigN,List.length_cons,zcA,Nat.pow_add,Nat.mul_add,Nat.mul_assoc,Nat.add_assoc]
    rw[e]
    cases i with
    |zero=>simp[Nat.add_mul_mod_self_left,Nat.mod_eq_of_lt hv]
    |succ i=>
     rw[zcA,Nat.pow_add,←Nat.div_div_eq_div_mul,Nat.add_mul_div_left _ _ (Nat.pow_pos (by omega)),Nat.div_eq_of_lt hv,Nat.zero_add,ih i (by simpa using hi) fun x hx=>hl x (by simp[hx])]
     simp
  rw[unpk,List.getElem?_map,List.getElem?_range hi,Option.map_some,hp l i hi h]
  simp[hi]
 ·rw[List.getElem?_eq_none (by rw[zcH];exact hi),List.getElem?_eq_none hi]
theorem zng (x d k:Nat):x%2^d |||(x/2^d%2^k*2^d)=x%2^(d+k):=by
 rw[Nat.pow_add,Nat.mod_mul,Nat.or_comm,Nat.mul_comm _ (2^d),←Nat.two_pow_add_eq_or_of_lt (Nat.mod_lt _ (Nat.pow_pos (by omega))),Nat.add_comm]
end Go.Wd
namespace Go.Wd
def w64 (x:Int):Int:=(x+9223372036854775808)%18446744073709551616-9223372036854775808
def In64 (x:Int):Prop:= -9223372036854775808≤x∧x<9223372036854775808
theorem ziN (x:Int):In64 (w64 x):=by unfold w64 In64;omega
theorem zmp {p v:Int} (h:In64 v):w64 (w64 (v-p)+p)=v:=by unfold w64;unfold In64 at h;omega
def dfs:Int→List Int→List Int
 |_,[]=>[]
 |p,v::l=>w64 (v-p)::dfs v l
def difs:List Int→List Int
 |[]=>[]
 |v::l=>v::dfs v l
def sms:Int→List Int→List Int
 |_,[]=>[]
 |p,d::l=>w64 (d+p)::sms (w64 (d+p)) l
def sums:List Int→List Int
 |[]=>[]
 |v::l=>v::sms v l
theorem zjT:∀p l,(dfs p l).length=l.length
 |_,[]=>rfl
 |p,v::l=>by rw[dfs,List.length_cons,zjT v l,List.length_cons]
theorem zbG (l:List Int):(difs l).length=l.length:=by cases l with
 |nil=>rfl
 |cons v l=>rw[difs,List.length_cons,zjT,List.length_cons]
theorem zkM:∀p l,(sms p l).length=l.length
 |_,[]=>rfl
 |p,v::l=>by rw[sms,List.length_cons,zkM,List.length_cons]
theorem ziI (l:List Int):(sums l).length=l.length:=by cases l with
 |nil=>rfl
 |cons v l=>rw[sums,List.length_cons,zkM,List.length_cons]
theorem zkJ:∀p l,(∀v∈l,In64 v)→sms p (dfs p l)=l
 |_,[],_=>rfl
 |p,v::l,h=>by rw[dfs,sms,zmp (h v (by simp)),zkJ v l fun x hx=>h x (by simp[hx])]
theorem zkV {l:List Int} (h:∀v∈l,In64 v):sums (difs l)=l:=by cases l with
 |nil=>rfl
 |cons v l=>rw[difs,sums,zkJ v l fun x hx=>h x (by simp[hx])]
theorem zmy:∀p l,∀v∈dfs p l,In64 v
 |_,[],v,h=>by simp[dfs]at h
 |p,x::l,v,h=>by
  rw[dfs,List.mem_cons]at h
  rcases h with rfl|h
  ·exact ziN _
  ·exact zmy x l v h
theorem zfb {l:List Int} (h:∀v∈l,In64 v):∀v∈difs l,In64 v:=by
 cases l with
 |nil=>simp[difs]
 |cons x l=>
  intro v hv
  rw[difs,List.mem_cons]at hv
  rcases hv with rfl|hv
  ·exact h v (by simp)
  ·exact zmy x l v hv
theorem zjS:∀(p:Int) (l:List Int) (i:Nat),i<l.length→(dfs p l).getD i 0=w64 (l.getD i 0-(p::l).getD i 0)
 |p,v::l,0,_=>by simp[dfs]
 |p,v::l,i+1,h=>by
  have :=zjS v l i (by simpa using h)
  simpa[dfs]using this
theorem zlt {l:List Int} {i:Nat} (h:i+1<l.length):(difs l).getD (i+1) 0=w64 (l.getD (i+1) 0-l.getD i 0):=by
 cases l with
 |nil=>simp at h
 |cons v l=>
  have :=zjS v l i (by simpa using h)
  simpa[difs]using this
theorem zkL:∀(p:Int) (l:List Int) (i:Nat),i<l.length→(sms p l).getD i 0=w64 (l.getD i 0+(p::sms p l).getD i 0)
 |p,v::l,0,_=>by simp[sms]
 |p,v::l,i+1,h=>by
  have :=zkL (w64 (v+p)) l i (by simpa using h)
  simpa[sms]using this
theorem zmh {l:List Int} {i:Nat} (h:i+1<l.length):(sums l).getD (i+1) 0=w64 (l.getD (i+1) 0+(sums l).getD i 0):=by
 cases l with
 |nil=>simp at h
 |cons v l=>
  have :=zkL v l i (by simpa using h)
  simpa[sums]using this
theorem zoe (l:List Int):(difs l).getD 0 0=l.getD 0 0:=by cases l<;>rfl
theorem zoD (l:List Int):(sums l).getD 0 0=l.getD 0 0:=by cases l<;>rfl
theorem zlH {l D:List Int} (hl:D.length=l.length) {i:Nat} (hi:i<l.length):(l.take (i+1)++D.drop (i+1)).set i (D.getD i 0)=l.take i++D.drop i:=by
 apply List.ext_getElem?
 intro j
 rcases Nat.lt_trichotomy j i with h|h|h
 ·rw[List.getElem?_set_ne (by omega),List.getElem?_append_left (by rw[List.length_take];omega),List.getElem?_append_left (by rw[List.length_take];omega),List.getElem?_take_of_lt (by omega),List.getElem?_take_of_lt h]
 ·subst h
  rw[List.getElem?_set_self (by rw[List.length_append,List.length_take];omega),List.getElem?_append_right (by rw[List.length_take];omega),List.length_take,List.getElem?_drop]
  rw[show j+(j-min j l.length)=j by omega,List.getD_eq_getElem?_getD,List.getElem?_eq_getElem (show j<D.length by omega)];rfl
 ·rw[List.getElem?_set_ne (by omega),List.getElem?_append_right (by rw[List.length_take];omega),List.getElem?_append_right (by rw[List.length_take];omega),List.length_take,List.length_take,List.getElem?_drop,List.getElem?_drop]
  congr 1;omega
theorem zkf {l D:List Int} (hl:D.length=l.length) {i:Nat} (hi:i<l.length):(D.take i++l.drop i).set i (D.getD i 0)=D.take (i+1)++l.drop (i+1):=by
 apply List.ext_getElem?
 intro j
 rcases Nat.lt_trichotomy j i with h|h|h
 ·rw[List.getElem?_set_ne (by omega),List.getElem?_append_left (by rw[List.length_take];omega),List.getElem?_append_left (by rw[List.length_take];omega),List.getElem?_take_of_lt (by omega),List.getElem?_take_of_lt (by omega)]
 ·subst h
  rw[List.getElem?_set_self (by rw[List.length_append,List.length_take,List.length_drop];omega),List.getElem?_append_left (by rw[List.length_take];omega),List.getElem?_take_of_lt (by omega)]
  rw[List.getD_eq_getElem?_getD,List.getElem?_eq_getElem (show j<D.length by omega)];rfl
 ·rw[List.getElem?_set_ne (by omega),List.getElem?_append_right (by rw[List.length_take];omega),List.getElem?_append_right (by rw[List.length_take];omega),List.length_take,List.length_take,List.getElem?_drop,List.getElem?_drop]
  congr 1;omega
theorem znd (l D:List Int) (hl:D.length=l.length) (i:Nat):(l.take i++D.drop i).length=l.length:=by rw[List.length_append,List.length_take,List.length_drop];omega
theorem zdo {l D:List Int} {i j:Nat} (h:j<i) (hj:j<l.length):(l.take i++D.drop i).getD j 0=l.getD j 0:=by
 rw[List.getD_eq_getElem?_getD,List.getElem?_append_left (by rw[List.length_take];omega),List.getElem?_take_of_lt h,List.getD_eq_getElem?_getD]
theorem zjd {l D:List Int} (hl:D.length=l.length) {i j:Nat} (h:i≤j) (hi:i≤l.length):(l.take i++D.drop i).getD j 0=D.getD j 0:=by
 rw[List.getD_eq_getElem?_getD,List.getElem?_append_right (by rw[List.length_take];omega),List.length_take,List.getElem?_drop,List.getD_eq_getElem?_getD]
 congr 2;omega
theorem zke {l D:List Int} (hl:D.length=l.length) (h0:D.getD 0 0=l.getD 0 0):l.take 1++D.drop 1=D:=by
 cases l with
 |nil=>simp at hl;subst hl;rfl
 |cons v l=>
  cases D with
  |nil=>simp at hl
  |cons d D=>simp at h0;subst h0;simp
def zaO (f:List Int→List Int):Nat→List Int→List Int
 |0,l=>l
 |n+1,l=>zaO f n (f l)
theorem za7 (f:List Int→List Int) (h:∀l,(f l).length=l.length):∀n l,(zaO f n l).length=l.length
 |0,_=>rfl
 |n+1,l=>by rw[zaO,za7 f h n,h]
theorem zdB (f:List Int→List Int):∀n l,zaO f (n+1) l=f (zaO f n l)
 |0,l=>rfl
 |n+1,l=>by rw[zaO,zdB f n (f l),zaO]
theorem zcO {f:List Int→List Int} (h:∀l:List Int,(∀v∈l,In64 v)→∀v∈f l,In64 v):∀(n:Nat) (l:List Int),(∀v∈l,In64 v)→∀v∈zaO f n l,In64 v
 |0,l,hl=>hl
 |n+1,l,hl=>zcO h n (f l) (h l hl)
theorem zhT {l:List Int}:∀n,(∀v∈l,In64 v)→zaO sums n (zaO difs n l)=l:=by
 intro n
 induction n generalizing l with
 |zero=>intro _;rfl
 |succ n ih=>
  intro h
  rw[zdB sums n,zaO,ih (zfb h),zkV h]
end Go.Wd
namespace Go.Wd
abbrev B64:Nat:=18446744073709551616
def val:List Nat→Nat
 |[]=>0
 |a::l=>a+B64*val l
def ws:Nat→Nat→List Nat
 |_,0=>[]
 |n,k+1=>n%B64::ws (n/B64) k
def Wds (l:List Nat):Prop:=∀a∈l,a<B64
theorem zmN:∀(l:List Nat),Wds l→ws (val l) l.length=l
 |[],_=>rfl
 |a::l,h=>by
  have ha:a<B64:=h a (by simp)
  have h1:(a+B64*val l)%B64=a:=by unfold B64 at *;omega
  have h2:(a+B64*val l)/B64=val l:=by unfold B64 at *;omega
  rw[val,List.length_cons,ws,h1,h2,zmN l (fun x hx=>h x (by simp[hx]))]
theorem Wds.set {l:List Nat} (h:Wds l) (p:Nat) {v:Nat} (hv:v<B64):Wds (l.set p v):=by
 intro a ha
 rcases List.mem_or_eq_of_mem_set ha with h'|rfl
 ·exact h a h'
 ·exact hv
theorem Wds.get {l:List Nat} (h:Wds l) (p:Nat):l.getD p 0<B64:=by
 rcases Nat.lt_or_ge p l.length with hp|hp
 ·have :l.getD p 0=l[p]:=by simp[hp]
  rw[this];exact h _ (List.getElem_mem hp)
 ·have :l.getD p 0=0:=by simp[hp]
  rw[this];unfold B64;omega
def trim:List Nat→List Nat
 |[]=>[]
 |a::l=>match trim l with
  |[]=>if a=0 then[]else[a]
  |b::m=>a::b::m
end Go.Wd
