/- Texts of the second layer in one: Wg5 Bk1 Bk2 Vc3 Nm1. -/
import Derived.Test.YthiioppfnmcclaaGreatG14
import Derived.Test.YthiioppfnmcclaaGreatG7
import Derived.Test.YthiioppfnmcclaaGreatSh
import Derived.Test.YthiioppfnmcclaaGreatG12
import Derived.Test.YthiioppfnmcclaaGreatG4
import Derived.Test.YthiioppfnmcclaaGreatG8
import Derived.Test.YthiioppfnmcclaaGreatG11
import Derived.Test.YthiioppfnmcclaaGreatG10
set_option maxHeartbeats 4000000
set_option maxRecDepth 100000
set_option linter.unusedVariables false
set_option linter.unusedSimpArgs false
namespace Go.Proofs.YthiioppfnmcclaaGreat
open Go.RowKit Go.Ab Go.Wd
theorem zhR {f:FuncId} {x u:Value} (h:∀w,Calls Tryz.prog f #[x] w fun e w'=>e= .returned u∧w'=w):zam Tryz.prog f [.r (.v x)] [] (.r (.v u)) []:=by
 intro w Z M k us hM hk hargs _ _
 simp only[AV.reps,AV.rep,RV.rep]at hargs
 obtain⟨_,_,rfl,rfl,rfl⟩:=hargs
 exact(h w).mono fun e w' ⟨he,hw⟩=>⟨u,he,Z,fun _ _=>rfl,by simp only[zaq,AV.unfr,AV.rep,RV.rep],fun i b h=>by simp[zaq,zaM]at h,fun j b h=>by simp[zaq,AV.unfr]at h,fun j j' x h=>by simp[zaq,AV.unfr]at h,fun j x h=>by simp[zaq,AV.unfr]at h,hw▸Go.Ab.Upto.refl _⟩
theorem zmB (x:Nat) (h:x<B64):zam Tryz.prog 99 [.r (.v (.int .u64 (x:Int)))] [] (.r (.v (.int .i64 ((bl x:Nat):Int)))) []:=by
 rw[←zn8 x h]
 refine zhR fun w=>?_
 have :=Tryz.bits_Len64 (x:Int) w (by omega) (by unfold B64 at h;omega)
 rwa [Int.toNat_natCast]at this
theorem zn7 (k v:Nat) (h:0<v):bl (v/2^k)=bl v-k:=by
 unfold bl
 by_cases h0:v/2^k=0
 ·rw[if_pos h0,if_neg (show ¬v=0 by omega)]
  have h1:v<2^k:=(Nat.div_eq_zero_iff_lt (Nat.pow_pos (by omega))).1 h0
  have :v.log2<k:=(Nat.log2_lt (by omega)).2 h1
  omega
 ·rw[if_neg h0,if_neg (show ¬v=0 by omega)]
  have h1:2^k≤v:=by
   rcases Nat.lt_or_ge v (2^k)with h2|h2
   ·exact absurd (Nat.div_eq_of_lt h2) h0
   ·exact h2
  have h2:k≤v.log2:=(Nat.le_log2 (by omega)).2 h1
  have h3:(v/2^k).log2=v.log2-k:=by
   have a1:2^(v.log2-k)≤v/2^k:=by
    rw[Nat.le_div_iff_mul_le (Nat.pow_pos (by omega)),←Nat.pow_add,Nat.sub_add_cancel h2]
    exact Nat.log2_self_le (by omega)
   have a2:v/2^k<2^(v.log2-k+1):=by
    rw[Nat.div_lt_iff_lt_mul (Nat.pow_pos (by omega)),←Nat.pow_add,show v.log2-k+1+k=v.log2+1 by omega]
    exact Nat.lt_log2_self
   have b1:=(Nat.le_log2 h0).2 a1
   have b2:=(Nat.log2_lt h0).2 a2
   omega
  omega
theorem ziL:∀(k v:Nat),v<2*128^k→(vbn k v).length=(if(bl v+6)/7<1 then 1 else(bl v+6)/7)
 |0,v,h=>by
  have h':v=0∨v=1:=by simp at h;omega
  rcases h' with rfl|rfl<;>decide
 |k+1,v,h=>by
  rw[vbn]
  by_cases hv:v<128
  ·rw[if_pos hv]
   have :bl v≤7:=by
    rcases Nat.eq_zero_or_pos v with h0|h0
    ·subst h0;decide
    ·have h1:=zmT v (by omega)
     rcases Nat.lt_or_ge 7 (bl v)with h2|h2
     ·have :(2:Nat)^7≤2^(bl v-1):=Nat.pow_le_pow_right (by omega) (by omega)
      omega
     ·exact h2
   simp only[List.length_cons,List.length_nil]
   split <;>omega
  ·rw[if_neg hv,List.length_cons,ziL k (v/128) (by rw[Nat.pow_succ]at h;omega)]
   have hd:=zn7 7 v (by omega)
   rw[show(2:Nat)^7=128 from rfl]at hd
   have h8:8≤bl v:=by
    have h1:=zmU v
    rcases Nat.lt_or_ge (bl v) 8 with h2|h2
    ·have :(2:Nat)^bl v≤2^7:=Nat.pow_le_pow_right (by omega) (by omega)
     omega
    ·exact h2
   rw[hd]
   split <;>split <;>omega
theorem znY {v:Nat} (h:v<B64):(if((1:Int))>((((bl v+6)/7:Nat)):Int)then(1:Int)else((((bl v+6)/7:Nat)):Int))=(((vb v).length:Nat):Int):=by
 have :=ziL 9 v (by rw[show(2:Nat)*128^9=18446744073709551616 from rfl];exact h)
 rw[show vb v=vbn 9 v from rfl,this]
 split <;>split <;>omega
theorem zoB (v:Nat) (h:v<B64):zam Tryz.prog 62 [.r (.v (.int .u64 (v:Int)))] [] (.r (.v (.int .i64 (((vb v).length:Nat):Int)))) []:=by
 refine zaA Tryz.func62 rfl (Nat.le_of_ble_eq_true rfl) rfl rfl ?_
 have cL:=zmB v h
 have hs:=znY h
 have hb:=zjD h
 have hq:IntKind.i64.wrap (((bl v+5+1:Nat):Int).tdiv 7)=(((bl v+6)/7:Nat):Int):=by rw[Int.tdiv_eq_ediv_of_nonneg (by omega),IntKind.wrap_i64];omega
 generalize bl v=b at *
 (repeat' (first|refine zad ?_|(refine is_f 99 ?_;refine zag (cL) ?_)|(refine zac (fun hb=>?_) (fun hb=>?_)<;>(try(exfalso;omega)))|fail))
 all_goals exact ret1 [] (.int rfl) rfl rfl rfl
def bwS (l:List Nat) (i a:Nat):St:=⟨[(3,.r (.v (.int .u64 (a:Int)))),(6,.r (.sl 1 (wns l))),(7,.r (.v (.int .i64 (l.length:Int)))),(8,.r (.v (.int .i64 (i:Int))))],[],0⟩
theorem zld (l:List Nat) (h:∀v∈l,v<B64) (hn:l.length≤1000000000):zam Tryz.prog 63 [.r (.sl 1 (wns l))] [] (.r (.v (.int .i64 ((wdt l:Nat):Int)))) []:=by
 refine zaA Tryz.func63 rfl (Nat.le_of_ble_eq_true rfl) rfl rfl ?_
 have hl:=zbu l
 (repeat' (first|refine zad ?_|(refine zac (fun hb=>?_) (fun hb=>?_)<;>(try(exfalso;omega)))|fail))
 have e0:((wns l).length:Int)=(l.length:Int):=by rw[hl]
 refine zap (fun x:Nat×Nat=>bwS l x.1 x.2) (fun x=>x.1≤l.length∧(l.drop x.1).foldl (fun a v=>a |||v) x.2=orA l∧x.2<2^64) (fun x=>l.length-x.1) (0,0) ⟨Nat.zero_le _,rfl,by decide⟩ (by(refine Le.mk [] [] zaj zal zan zah)) fun x hx=>?_
 obtain⟨i,a⟩:=x
 obtain⟨hi,ha,hb⟩:=hx
 dsimp only at hi ha hb
 change awp _ _ _ _ _ (bwS l i a)
 rcases Nat.lt_or_ge i l.length with hi'|hi'
 ·have hg:=zch (l:=l) hi'
  have hv:l.getD i 0<B64:=by
   rw[List.getD_eq_getElem?_getD,List.getElem?_eq_getElem hi'];exact h _ (List.getElem_mem hi')
  have hd:l.drop i=l.getD i 0::l.drop (i+1):=by rw[List.drop_eq_getElem_cons hi',List.getD_eq_getElem?_getD,List.getElem?_eq_getElem hi'];rfl
  rw[hd,List.foldl_cons]at ha
  generalize l.getD i 0=v at *
  have ho:=u64_or_nat a v hb hv
  have hb2:a |||v<2^64:=Nat.or_lt_two_pow hb hv
  have hn':=zaE i (by omega)
  (repeat' (first|refine zad ?_|(refine zac (fun hb=>?_) (fun hb=>?_)<;>(try(exfalso;omega)))|fail))
  all_goals (first|(exfalso;omega)|exact⟨(i+1,a |||v),⟨hi',ha,hb2⟩,by show Le _ _ (bwS l (i+1) (a |||v));(refine Le.mk [] [] zaj zal zan zah),by show l.length-(i+1)<l.length-i;omega⟩)
 ·rw[List.drop_eq_nil_of_le hi']at ha
  have ha:a=orA l:=ha
  have cL:=zmB a hb
  rw[ha]at cL hb ⊢
  change zam _ _ _ _ (.r (.v (.int .i64 ((wdt l:Nat):Int)))) _ at cL
  (repeat' (first|refine zad ?_|(refine is_f 99 ?_;refine zag (cL) ?_)|(refine zac (fun hb=>?_) (fun hb=>?_)<;>(try(exfalso;omega)))|fail))
  all_goals (first|(exfalso;omega)|exact ret1 [] (.int rfl) rfl rfl rfl)
theorem zhz (n w:Nat) (hn:n≤65536) (hw:w≤64):zam Tryz.prog 100 [.r (.v (.int .i64 (n:Int))),.r (.v (.int .i64 (w:Int)))] [] (.r (.v (.int .i64 ((psz n w:Nat):Int)))) []:=by
 refine zaA Tryz.func100 rfl (Nat.le_of_ble_eq_true rfl) rfl rfl ?_
 have hnw:n*w≤65536*64:=Nat.mul_le_mul hn hw
 have hm:IntKind.i64.wrap ((n:Int)*(w:Int))=((n*w:Nat):Int):=by rw[←Int.natCast_mul,IntKind.wrap_i64];omega
 have hq:IntKind.i64.wrap (((n*w+6+1:Nat):Int).tdiv 8)=((psz n w:Nat):Int):=by unfold psz;rw[Int.tdiv_eq_ediv_of_nonneg (by omega),IntKind.wrap_i64];omega
 generalize psz n w=q at *
 generalize n*w=m at *
 (repeat' (first|refine zad ?_|(refine zac (fun hb=>?_) (fun hb=>?_)<;>(try(exfalso;omega)))|fail))
 all_goals (first|(exfalso;omega)|exact ret1 [] (.int rfl) rfl rfl rfl)
theorem zbw {l:List UInt8} {j:Nat} (h:j<l.length):(bys l)[j]? =some [.v (.int .u8 (((l.getD j 0).toNat:Nat):Int))]:=by simp[bys,h]
theorem zmX (l:List UInt8) (j x:Nat) (h:x<256):(bys l).set j [.v (.int .u8 (x:Int))]=bys (l.set j (UInt8.ofNat x)):=by
 unfold bys
 rw[List.map_set]
 congr 2
 rw[zgF,Nat.mod_eq_of_lt h]
def pkM (w:Nat) (l:List Nat) (i d:Nat):Nat:=bigN w (l.take i)+l.getD i 0%2^d*2^(w*i)
theorem zlX (w:Nat) (l:List Nat) (i:Nat):pkM w l i 0=bigN w (l.take i):=by unfold pkM;rw[Nat.pow_zero,Nat.mod_one,Nat.zero_mul,Nat.add_zero]
theorem getD_mem {l:List Nat} {i:Nat} (h:i<l.length):l.getD i 0∈l:=by
 rw[List.getD_eq_getElem?_getD,List.getElem?_eq_getElem h];exact List.getElem_mem h
theorem zlV {w:Nat} {l:List Nat} (h:∀v∈l,v<2^w) {i:Nat} (hi:i<l.length):pkM w l i w=bigN w (l.take (i+1)):=by
 have ht:l.take (i+1)=l.take i++[l.getD i 0]:=zaI l i 0 hi
 unfold pkM
 rw[ht,zgO,List.length_take,Nat.min_eq_left (by omega),Nat.mod_eq_of_lt (h _ (getD_mem hi)),Nat.mul_comm]
theorem zos {w:Nat} {l:List Nat} (h:∀v∈l,v<2^w) {i:Nat} (hi:i≤l.length) (d:Nat):pkM w l i d<2^(w*i+d):=by
 have h1:=zf9 w (l.take i) fun v hv=>h v (List.mem_of_mem_take hv)
 rw[List.length_take,Nat.min_eq_left hi]at h1
 have h2:l.getD i 0%2^d+1≤2^d:=Nat.mod_lt _ (Nat.pow_pos (by omega))
 have h3:=Nat.mul_le_mul_right (2^(w*i)) h2
 unfold pkM
 rw[Nat.add_mul,Nat.one_mul]at h3
 rw[Nat.pow_add,Nat.mul_comm (2^(w*i))]
 omega
theorem zlW (w:Nat) (l:List Nat) (i d n:Nat):pkM w l i (d+n)=pkM w l i d+l.getD i 0/2^d%2^n*2^(w*i+d):=by
 unfold pkM
 rw[Nat.pow_add,Nat.mod_mul,Nat.add_mul,Nat.pow_add,Nat.add_assoc]
 congr 2
 rw[Nat.mul_comm (2^d),Nat.mul_assoc,Nat.mul_comm (2^d)]
theorem znq {w:Nat} {l:List Nat} (h:∀v∈l,v<2^w) {i d z:Nat} (hi:i<l.length) (hd:d<w) (hz:w*l.length≤8*z) (n:Nat) (hn:n=min (8-(w*i+d)%8) (w-d)):
  (w*i+d)/8<z∧((lb z (pkM w l i d)).getD ((w*i+d)/8) 0).toNat<2^((w*i+d)%8)∧l.getD i 0/2^d<2^(w-d)∧((lb z (pkM w l i d)).getD ((w*i+d)/8) 0).toNat+l.getD i 0/2^d%2^n*2^((w*i+d)%8)<256∧
  (lb z (pkM w l i d)).set ((w*i+d)/8) (UInt8.ofNat (((lb z (pkM w l i d)).getD ((w*i+d)/8) 0).toNat+l.getD i 0/2^d%2^n*2^((w*i+d)%8)))=lb z (pkM w l i (d+n)):=by
 have hwi:w*i+w≤w*l.length:=by rw[←Nat.mul_succ];exact Nat.mul_le_mul_left _ hi
 have hM:=zos h (Nat.le_of_lt hi) d
 have hq:(w*i+d)/8<z:=by omega
 have hc:((lb z (pkM w l i d)).getD ((w*i+d)/8) 0).toNat=pkM w l i d/256^((w*i+d)/8):=by
  rw[List.getD_eq_getElem?_getD,zin _ _ _ hq,Option.getD_some,zgF,Nat.mod_eq_of_lt]
  rw[Nat.div_lt_iff_lt_mul (Nat.pow_pos (by omega)),Nat.mul_comm,←Nat.pow_succ,p256]
  exact Nat.lt_of_lt_of_le hM (Nat.pow_le_pow_right (by omega) (by omega))
 have hc2:pkM w l i d/256^((w*i+d)/8)<2^((w*i+d)%8):=by
  rw[Nat.div_lt_iff_lt_mul (Nat.pow_pos (by omega)),Nat.mul_comm,←zgl];exact hM
 have hx:l.getD i 0/2^d%2^n<2^n:=Nat.mod_lt _ (Nat.pow_pos (by omega))
 have hv:l.getD i 0/2^d<2^(w-d):=by
  rw[Nat.div_lt_iff_lt_mul (Nat.pow_pos (by omega)),←Nat.pow_add,Nat.sub_add_cancel (by omega)];exact h _ (getD_mem hi)
 have h8:(w*i+d)%8+n≤8:=by omega
 refine⟨hq,by rw[hc];exact hc2,hv,?_,?_⟩
 ·rw[hc]
  have h1:(l.getD i 0/2^d%2^n+1)*2^((w*i+d)%8)≤2^n*2^((w*i+d)%8):=Nat.mul_le_mul_right _ hx
  rw[←Nat.pow_add,Nat.add_mul,Nat.one_mul]at h1
  have h2:(2:Nat)^(n+(w*i+d)%8)≤2^8:=Nat.pow_le_pow_right (by omega) (by omega)
  omega
 ·rw[hc,zlW]
  exact(zm4 z _ _ n _ hM h8 hx hq).symm
def pcS (w:Nat) (l:List Nat) (i:Nat) (L:List UInt8):St:=
 ⟨[(1,.r (.v (.int .i64 (w:Int)))),(7,.ow 0),(8,.r (.v (.int .i64 ((w*i:Nat):Int)))),(27,.r (.sl 1 (wns l))),(28,.r (.v (.int .i64 (l.length:Int)))),(29,.r (.v (.int .i64 (i:Int))))],[(0,some (.row 5 1 (bys L)))],1⟩
def pdS (w:Nat) (l:List Nat) (i a v k:Nat) (L:List UInt8):St:=
 ⟨[(1,.r (.v (.int .i64 (w:Int)))),(7,.ow 0),(8,.r (.v (.int .i64 (a:Int)))),(10,.r (.v (.int .u64 (v:Int)))),(11,.r (.v (.int .i64 (k:Int)))),(27,.r (.sl 1 (wns l))),(28,.r (.v (.int .i64 (l.length:Int)))),(29,.r (.v (.int .i64 (i:Int))))],[(0,some (.row 5 1 (bys L)))],1⟩
theorem zor (l:List Nat) (h:∀v∈l,v<B64) (hn:l.length≤65536):zam Tryz.prog 64 [.r (.sl 1 (wns l)),.r (.v (.int .i64 ((wdt l:Nat):Int)))] [] (.tu [.fr 5 1 (bys (pkL l)),.r (.v (.bool true))]) []:=by
 have hw:=zlc h
 have hlt:=ziO l
 have cW:=zld l h (by omega)
 have cB:=zhz l.length (wdt l) hn hw
 have hsz:=zgo l.length (wdt l)
 have hl:=zbu l
 unfold pkL
 have hnw:wdt l*l.length≤64*65536:=Nat.mul_le_mul hw hn
 have hz:psz l.length (wdt l)≤1000000:=by unfold psz;rw[Nat.mul_comm];omega
 generalize wdt l=w at *
 generalize psz l.length w=z at *
 have h00:List.replicate z (List.map RV.v [Value.int .u8 0])=bys (lb z (bigN w (l.take 0))):=by
  have :∀k,lb k 0=List.replicate k 0:=fun k=>by
   induction k with
   |zero=>rfl
   |succ k ih=>rw[lb,List.replicate_succ,ih];rfl
  rw[show bigN w (l.take 0)=0 by simp[bigN],this]
  simp[bys]
 refine zaA Tryz.func64 rfl (Nat.le_of_ble_eq_true rfl) rfl rfl ?_
 (repeat' (first|refine zad ?_|(refine is_f 100 ?_;refine zag (cB) ?_)|(refine is_f 63 ?_;refine zag (cW) ?_)|(refine zac (fun hb=>?_) (fun hb=>?_)<;>(try(exfalso;omega)))|fail))
 all_goals (first|(exfalso;omega)|skip)
 clear cW cB
 have e0:((wns l).length:Int)=(l.length:Int):=by rw[hl]
 refine zap (fun i=>pcS w l i (lb z (bigN w (l.take i)))) (fun i=>i≤l.length) (fun i=>l.length-i) 0 (Nat.zero_le _) (by unfold pcS;rw[Nat.mul_zero];(refine Le.mk [] [] zaj zal zan zah)) fun i hi=>?_
 clear h00
 change awp _ _ _ _ _ (pcS w l i (lb z (bigN w (l.take i))))
 rcases Nat.lt_or_ge i l.length with hi'|hi'
 ·have hg:=zch (l:=l) hi'
  have hn':=zaE i (by omega)
  have hv64:l.getD i 0<B64:=h _ (getD_mem hi')
  have hwi:w*i+w≤w*l.length:=by rw[←Nat.mul_succ];exact Nat.mul_le_mul_left _ hi'
  have hpk:=fun d (hd:d<w) n hn=>znq hlt (z:=z) hi' hd hsz n hn
  have hpz:=zlX w l i
  have hpf:=zlV hlt hi'
  rw[←hpz]
  clear hlt
  (repeat' (first|refine zad ?_|(refine zac (fun hb=>?_) (fun hb=>?_)<;>(try(exfalso;omega)))|fail))
  all_goals (first|(exfalso;omega)|skip)
  refine zap (fun x:Nat×Nat×Nat×Nat=>pdS w l i x.2.1 x.2.2.1 x.2.2.2 (lb z (pkM w l i x.1))) (fun x=>x.1≤w∧x.2.1=w*i+x.1∧x.2.2.1=l.getD i 0/2^x.1∧x.2.2.2=w-x.1) (fun x=>w-x.1) (0,w*i,l.getD i 0,w) ⟨Nat.zero_le _,rfl,by simp,rfl⟩ (by(refine Le.mk [] [] zaj zal zan zah)) fun x hx=>?_
  obtain⟨d,a,v,k⟩:=x
  obtain⟨hd,ha,hv,hk⟩:=hx
  dsimp only at hd ha hv hk
  change awp _ _ _ _ _ (pdS w l i a v k (lb z (pkM w l i d)))
  have hll:=zfQ z (pkM w l i d)
  have hbl:=zas (lb z (pkM w l i d))
  rcases Nat.lt_or_ge d w with hd'|hd'
  ·obtain⟨n,hn⟩:∃n,n=min (8-(w*i+d)%8) (w-d):=⟨_,rfl⟩
   obtain⟨p1,p2,p3,p4,p5⟩:=hpk d hd' n hn
   rw[←ha]at hn p1 p2 p4 p5
   rw[←hv]at p3 p4 p5
   rw[←hk]at hn p3
   have hor:=znh _ v (a%8) n k (Nat.mod_lt _ (by omega)) p2 p3 hn
   have hget:=zbw (l:=lb z (pkM w l i d)) (j:=a/8) (by rw[hll];exact p1)
   have hset:=zmX (lb z (pkM w l i d)) (a/8) _ p4
   rw[p5]at hset
   have hvB:v<B64:=by rw[hv];exact Nat.lt_of_le_of_lt (Nat.div_le_self _ _) hv64
   have hinv:d+n≤w∧a+n=w*i+(d+n)∧v/2^n=l.getD i 0/2^(d+n)∧k-n=w-(d+n):=⟨by omega,by omega,by rw[hv,Nat.div_div_eq_div_mul,Nat.pow_add],by omega⟩
   have hn0:0<n:=by omega
   have ha8:a<8000000+1:=by omega
   have hor2:bits .or .u8 ((((lb z (pkM w l i d)).getD (a/8) 0).toNat:Nat):Int) ((v%256*2^(a%8)%256:Nat):Int)=((((lb z (pkM w l i d)).getD (a/8) 0).toNat+v%2^n*2^(a%8):Nat):Int):=by
    rw[u8_or_nat _ _ (zjw _) (Nat.mod_lt _ (by omega)),hor]
   have hshl:IntKind.u8.wrap (((v%256:Nat):Int)*2^(min ((a%8:Nat):Int).toNat IntKind.u8.bits))=((v%256*2^(a%8)%256:Nat):Int):=by
    rw[Int.toNat_natCast,show min (a%8) IntKind.u8.bits=a%8 from Nat.min_eq_left (by show a%8≤8;omega),IntKind.wrap_u8]
    push_cast
    rfl
   have hshr:((v:Nat):Int).fdiv (2^(min ((n:Nat):Int).toNat IntKind.u64.bits))=((v/2^n:Nat):Int):=by
    rw[Int.toNat_natCast,show min n IntKind.u64.bits=n from Nat.min_eq_left (by show n≤64;omega),Int.fdiv_eq_ediv_of_nonneg _ (Int.le_of_lt (Int.pow_pos (by omega)))]
    push_cast
    rfl
   have hrem:((a:Nat):Int).tmod 8=((a%8:Nat):Int):=by rw[Int.tmod_eq_emod_of_nonneg (by omega)];omega
   have hquo:IntKind.i64.wrap (((a:Nat):Int).tdiv 8)=((a/8:Nat):Int):=by rw[Int.tdiv_eq_ediv_of_nonneg (by omega),IntKind.wrap_i64];omega
   have hcv:IntKind.u8.wrap ((v:Nat):Int)=((v%256:Nat):Int):=by rw[IntKind.wrap_u8];omega
   have hs8:a%8<8:=Nat.mod_lt _ (by omega)
   have hmin:(if((k:Nat):Int)<8-((a%8:Nat):Int)then((k:Nat):Int)else 8-((a%8:Nat):Int))=((n:Nat):Int):=by split <;>omega
   have hdec:w-(d+n)<w-d:=by omega
   have hkn:0<k∧n≤k:=by omega
   clear hpk p2 p3 p4 p5 hor hn ha hv hk hpz hpf hv64
   generalize v%2^n*2^(a%8)=y at *
   generalize v/2^n=v' at *
   generalize v%256*2^(a%8)%256=u at *
   generalize pkM w l i d=M at *
   generalize a/8=q at *
   generalize a%8=t at *
   (repeat' (first|refine zad ?_|(refine zac (fun hb=>?_) (fun hb=>?_)<;>(try(exfalso;omega)))|fail))
   all_goals (first|(exfalso;omega)|exact⟨(d+n,a+n,v',k-n),hinv,by show Le _ _ (pdS w l i (a+n) v' (k-n) (lb z (pkM w l i (d+n))));(refine Le.mk [] [] zaj zal zan zah),hdec⟩)
  ·obtain rfl:d=w:=by omega
   rw[hpf]
   clear hpk hpz hpf hv hv64
   obtain rfl:k=0:=by omega
   have ha2:d*(i+1)=a:=by rw[ha,Nat.mul_succ]
   (repeat' (first|refine zad ?_|(refine zac (fun hb=>?_) (fun hb=>?_)<;>(try(exfalso;omega)))|fail))
   all_goals (first|(exfalso;omega)|exact⟨i+1,hi',by show Le _ _ (pcS d l (i+1) (lb z (bigN d (l.take (i+1)))));unfold pcS;rw[ha2];(refine Le.mk [] [] zaj zal zan zah),by show l.length-(i+1)<l.length-i;omega⟩)
 ·rw[List.take_of_length_le hi']
  clear hlt
  (repeat' (first|refine zad ?_|(refine zac (fun hb=>?_) (fun hb=>?_)<;>(try(exfalso;omega)))|fail))
  all_goals (first|(exfalso;omega)|exact ret2 [] (.fr 0 _ _ _ rfl) (.bool rfl) rfl rfl rfl rfl)
end Go.Proofs.YthiioppfnmcclaaGreat
namespace Go.Proofs.YthiioppfnmcclaaGreat
open Go.RowKit Go.Ab
def vaS (v:Nat) (acc:List UInt8):St:=⟨[(1,.r (.v (.int .u64 v))),(5,.ow 0)],[(0,some (.row 5 1 (bys acc)))],1⟩
theorem zbm (l:List UInt8) (v:Nat) (hv:v<18446744073709551616) (hl:l.length≤140737488355100):zam Tryz.prog 21 [.r (.sl 1 (bys l)),.r (.v (.int .u64 v))] [] (.fr 5 1 (bys (l++vb v))) []:=by
 refine zaA Tryz.func21 rfl (Nat.le_of_ble_eq_true rfl) rfl rfl ?_
 (repeat' (first|refine zad ?_|(refine is_f 38 ?_;refine zag (zmZ l (by omega)) ?_)|(refine is_f 37 ?_;refine zbb (zjZ l 10 (by omega) (by omega)) ?_)|(refine zac (fun hb=>?_) (fun hb=>?_)<;>(try(exfalso;omega)))|fail))
 refine zap (fun x:Nat×Nat×List UInt8=>vaS x.2.1 x.2.2) (fun x=>x.2.1<2*128^x.1∧x.2.2++vbn x.1 x.2.1=l++vb v∧x.2.2.length+x.1≤l.length+9) (fun x=>x.1) (9,v,l) ⟨by show v<2*128^9;rw[show(2:Nat)*128^9=18446744073709551616 from rfl];exact hv,rfl,Nat.le_refl _⟩ (by(refine Le.mk [(0,1)] [] zaj zal zbk zah)) fun x hx=>?_
 obtain⟨k,u,acc⟩:=x
 obtain⟨h1,h2,h3⟩:=hx
 dsimp only at h1 h2 h3
 change awp _ _ _ _ _ (vaS u acc)
 have hal:=zas acc
 generalize l++vb v=R at *
 have hc:IntKind.u8.wrap (u:Int)=((u%256:Nat):Int):=by rw[IntKind.wrap_u8];omega
 rcases Nat.lt_or_ge u 128 with h|h
 ·rw[zk9 k u h]at h2
  have hE:bys acc++[[.v (.int .u8 ((u%256:Nat):Int))]]=bys R:=by rw[zhp _ (by omega),←zbf,←h2,Nat.mod_eq_of_lt (show u<256 by omega)]
  (repeat' (first|refine zad ?_|(refine zac (fun hb=>?_) (fun hb=>?_)<;>(try(exfalso;omega)))|fail))
  all_goals (rw[hE];exact ret1 [] (.fr 2 _ _ _ rfl) rfl rfl rfl)
 ·cases k with
  |zero=>omega
  |succ k=>
   rw[vbn,if_neg (by omega)]at h2
   have hor:=znP u
   have hsh:(u:Int).fdiv (2^(min (7:Int).toNat (IntKind.bits .u64)))=((u/128:Nat):Int):=by
    rw[show min (7:Int).toNat (IntKind.bits .u64)=7 from rfl,Int.fdiv_eq_ediv_of_nonneg _ (by omega)];omega
   have hE:bys acc++[[.v (.int .u8 ((u%128+128:Nat):Int))]]=bys (acc++[UInt8.ofNat (u%128+128)]):=by rw[zhp _ (by omega),←zbf]
   (repeat' (first|refine zad ?_|(refine zac (fun hb=>?_) (fun hb=>?_)<;>(try(exfalso;omega)))|fail))
   all_goals exact⟨(k,u/128,acc++[UInt8.ofNat (u%128+128)]),⟨by show u/128<2*128^k;rw[Nat.pow_succ]at h1;omega,by show(acc++[UInt8.ofNat (u%128+128)])++vbn k (u/128)=R;rw[List.append_assoc];exact h2,by show(acc++[UInt8.ofNat (u%128+128)]).length+k≤l.length+9;rw[List.length_append];simp;omega⟩,by show Le _ _ (vaS (u/128) (acc++[UInt8.ofNat (u%128+128)]));(refine Le.mk [(0,2)] [] zaj zal zbk zah),by show k<k+1;omega⟩
theorem ziR (x:Nat) (h:x<18446744073709551616):x^^^18446744073709551615=18446744073709551615-x:=by
 apply Nat.eq_of_testBit_eq
 intro i
 have e1:(18446744073709551615:Nat)=2^64-1:=rfl
 have e2:18446744073709551615-x=2^64-(x+1):=by rw[show(2:Nat)^64=18446744073709551616 from rfl];omega
 rw[Nat.testBit_xor,e2,Nat.testBit_two_pow_sub_succ (by rw[show(2:Nat)^64=18446744073709551616 from rfl];exact h),e1,Nat.testBit_two_pow_sub_one]
 by_cases hi:i<64
 ·simp[hi]
 ·have :x.testBit i=false:=Nat.testBit_lt_two_pow (Nat.lt_of_lt_of_le h (by rw[show(18446744073709551616:Nat)=2^64 from rfl];exact Nat.pow_le_pow_right (by omega) (by omega)))
  simp[hi,this]
theorem zgK (v:Int) (hv:I64 v):zam Tryz.prog 39 [.r (.v (.int .i64 v))] [] (.r (.v (.int .u64 (zz v)))) []:=by
 refine zaA Tryz.func39 rfl (Nat.le_of_ble_eq_true rfl) rfl rfl ?_
 have hv2: -9223372036854775808≤v∧v<9223372036854775808:=hv
 rcases Int.lt_or_le v 0 with h|h
 ·obtain⟨n,hn⟩:∃n:Nat,v= -((n:Int)+1):=⟨(-v-1).toNat,by omega⟩
  subst hn
  have c1:IntKind.u64.wrap (-((n:Int)+1))=((18446744073709551615-n:Nat):Int):=by rw[IntKind.wrap_u64];omega
  have c2:IntKind.u64.wrap (((18446744073709551615-n:Nat):Int)*2^(min (1:Int).toNat (IntKind.bits .u64)))=((18446744073709551614-2*n:Nat):Int):=by
   rw[show(2:Int)^(min (1:Int).toNat (IntKind.bits .u64))=2 from rfl,IntKind.wrap_u64];omega
  have c3:(-((n:Int)+1)).fdiv (2^(min (63:Int).toNat (IntKind.bits .i64)))= -1:=by
   rw[show(2:Int)^(min (63:Int).toNat (IntKind.bits .i64))=9223372036854775808 from rfl,Int.fdiv_eq_ediv_of_nonneg _ (by omega)];omega
  have c4:IntKind.u64.wrap (-1)=((18446744073709551615:Nat):Int):=by rw[IntKind.wrap_u64];rfl
  have c5:bits .xor .u64 ((18446744073709551614-2*n:Nat):Int) ((18446744073709551615:Nat):Int)=((zz (-((n:Int)+1)):Nat):Int):=by
   rw[u64_xor_nat _ _ (by omega) (by omega),ziR _ (by omega)]
   unfold zz
   rw[if_neg (by omega)]
   omega
  generalize zz (-((n:Int)+1))=z at *
  (repeat' (first|refine zad ?_|(refine zac (fun hb=>?_) (fun hb=>?_)<;>(try(exfalso;omega)))|fail))
  all_goals exact ret1 [] (.r _) rfl rfl rfl
 ·obtain⟨n,rfl⟩:=Int.eq_ofNat_of_zero_le h
  have c1:IntKind.u64.wrap (n:Int)=(n:Int):=by rw[IntKind.wrap_u64];omega
  have c2:IntKind.u64.wrap ((n:Int)*2^(min (1:Int).toNat (IntKind.bits .u64)))=((2*n:Nat):Int):=by
   rw[show(2:Int)^(min (1:Int).toNat (IntKind.bits .u64))=2 from rfl,IntKind.wrap_u64];omega
  have c3:(n:Int).fdiv (2^(min (63:Int).toNat (IntKind.bits .i64)))=0:=by
   rw[show(2:Int)^(min (63:Int).toNat (IntKind.bits .i64))=9223372036854775808 from rfl,Int.fdiv_eq_ediv_of_nonneg _ (by omega)];omega
  have c4:IntKind.u64.wrap 0=((0:Nat):Int):=by rw[IntKind.wrap_u64];rfl
  have c5:bits .xor .u64 ((2*n:Nat):Int) ((0:Nat):Int)=((zz (n:Int):Nat):Int):=by
   rw[u64_xor_nat _ _ (by omega) (by omega),Nat.xor_zero]
   unfold zz
   rw[if_pos (by omega)]
   omega
  generalize zz (n:Int)=z at *
  (repeat' (first|refine zad ?_|(refine zac (fun hb=>?_) (fun hb=>?_)<;>(try(exfalso;omega)))|fail))
  all_goals exact ret1 [] (.r _) rfl rfl rfl
theorem zcc (l:List UInt8) (v:Int) (hv:I64 v) (hl:l.length≤140737488355100):zam Tryz.prog 22 [.r (.sl 1 (bys l)),.r (.v (.int .i64 v))] [] (.fr 5 1 (bys (l++vb (zz v)))) []:=by
 refine zaA Tryz.func22 rfl (Nat.le_of_ble_eq_true rfl) rfl rfl ?_
 (repeat' (first|refine zad ?_|(refine is_f 39 ?_;refine zag (zgK v hv) ?_)|(refine is_f 21 ?_;refine zag (zbm l (zz v) (zjy hv) hl) ?_)|(refine zac (fun hb=>?_) (fun hb=>?_)<;>(try(exfalso;omega)))|fail))
 all_goals exact ret1 [] (.fr 0 _ _ _ rfl) rfl rfl rfl
theorem zmC (c:UInt8):zam Tryz.prog 129 [.r (.v (.int .u8 c.toNat))] [] (.r (.v (.bool (decide (c.toNat<128))))) []:=by
 refine zaA Tryz.func129 rfl (Nat.le_of_ble_eq_true rfl) rfl rfl ?_
 (repeat' (first|refine zad ?_|(refine zac (fun hb=>?_) (fun hb=>?_)<;>(try(exfalso;omega)))|fail))
 ·exact ret1 [] (.bool (decide_eq_true (by omega)).symm) rfl rfl rfl
 ·exact ret1 [] (.bool (decide_eq_false (by omega)).symm) rfl rfl rfl
theorem zhL (L:List UInt8) (e:Nat) (h1:e≤L.length) (h2:∀i,i<e→128≤(L.getD i 0).toNat) (h3:e<L.length→(L.getD e 0).toNat<128) (hL:L.length≤1000000):
  zam Tryz.prog 128 [.r (.sl 1 (bys L)),.r (.v (.func (.func 129) #[] #[]))] [] (.r (.v (.int .i64 (if e<L.length then(e:Int)else -1)))) []:=by
 refine zaA Tryz.func128 rfl (Nat.le_of_ble_eq_true rfl) rfl rfl ?_
 have hll:=zas L
 (repeat' (first|refine zad ?_|(refine zac (fun hb=>?_) (fun hb=>?_)<;>(try(exfalso;omega)))|fail))
 refine zap (fun k=>⟨[(0,.r (.sl 1 (bys L))),(1,.r (.v (.func (.func 129) #[] #[]))),(7,.r (.v (.int .i64 L.length))),(8,.r (.v (.int .i64 (k:Nat))))],[],0⟩) (fun k=>k≤e) (fun k=>e-k) 0 (Nat.zero_le _) (by(refine Le.mk [] [] zaj zal zbk zah)) fun k hk=>?_
 rcases Nat.lt_or_ge k e with h|h
 ·have hc:=zmC (L.getD k 0)
  have hm:=h2 k h
  rw[decide_eq_false (by omega)]at hc
  (repeat' (first|refine zad ?_|((refine zdW ?_;refine zbt zbr [] _ _ (hc) za1 zbq zbF rfl rfl rfl zaa ?_);try dsimp only[AV.unfr,AV.unfrs,frsL,pairs,rdOf,@List.length_cons Blk,@List.length_nil Blk,@List.nil_append (Nat×Option Blk),@List.cons_append (Nat×Option Blk),@List.nil_append Blk,@List.cons_append Blk,Nat.add_zero,Nat.zero_add,Nat.reduceAdd])|(refine zac (fun hb=>?_) (fun hb=>?_)<;>(try(exfalso;omega)))|fail))
  all_goals exact⟨k+1,h,by(refine Le.mk [] [] zaj zal zbk zah),by omega⟩
 ·obtain rfl:k=e:=by omega
  rcases Nat.lt_or_ge k L.length with h5|h5
  ·have hc:=zmC (L.getD k 0)
   rw[decide_eq_true (h3 h5)]at hc
   rw[if_pos h5]
   (repeat' (first|refine zad ?_|((refine zdW ?_;refine zbt zbr [] _ _ (hc) za1 zbq zbF rfl rfl rfl zaa ?_);try dsimp only[AV.unfr,AV.unfrs,frsL,pairs,rdOf,@List.length_cons Blk,@List.length_nil Blk,@List.nil_append (Nat×Option Blk),@List.cons_append (Nat×Option Blk),@List.nil_append Blk,@List.cons_append Blk,Nat.add_zero,Nat.zero_add,Nat.reduceAdd])|(refine zac (fun hb=>?_) (fun hb=>?_)<;>(try(exfalso;omega)))|fail))
   all_goals exact ret1 [] (.r _) rfl rfl rfl
  ·rw[if_neg (by omega)]
   (repeat' (first|refine zad ?_|(refine zac (fun hb=>?_) (fun hb=>?_)<;>(try(exfalso;omega)))|fail))
   all_goals exact ret1 [] (.r _) rfl rfl rfl
theorem zi6 (b:List UInt8) (a:Int) (h:a<0∨(b.length:Int)<a):zam Tryz.prog 101 [.r (.sl 1 (bys b)),.r (.v (.int .i64 a)),.r (.v (.int .i64 10))] [] (.tu [.r (.v (.slice none 0 0)),.r (.v (.int .i64 2))]) []:=by
 refine zaA Tryz.func101 rfl (Nat.le_of_ble_eq_true rfl) rfl rfl ?_
 have hll:=zas b
 rcases h with h|h
 ·(repeat' (first|refine zad ?_|(refine zac (fun hb=>?_) (fun hb=>?_)<;>(try(exfalso;omega)))|fail))
  all_goals exact ret2 [] (.r _) (.r _) rfl rfl rfl rfl
 ·(repeat' (first|refine zad ?_|(refine zac (fun hb=>?_) (fun hb=>?_)<;>(try(exfalso;omega)))|fail))
  all_goals exact ret2 [] (.r _) (.r _) rfl rfl rfl rfl
theorem zjY (b:List UInt8) (n:Nat) (h:n≤b.length) (hb:b.length≤211106232532992) (r:AV) (er:Int)
  (hr:(cnt 10 (b.drop n)=10∧r= .r (.v (.slice none 0 0))∧er=5)∨(cnt 10 (b.drop n)≠10∧cnt 10 (b.drop n)=(b.drop n).length∧r= .r (.v (.slice none 0 0))∧er=4)∨
   (cnt 10 (b.drop n)≠10∧cnt 10 (b.drop n)≠(b.drop n).length∧(0<cnt 10 (b.drop n)∧((b.drop n).getD (cnt 10 (b.drop n)) 0).toNat=0)∧r= .r (.v (.slice none 0 0))∧er=5)∨
   (cnt 10 (b.drop n)≠10∧cnt 10 (b.drop n)≠(b.drop n).length∧¬(0<cnt 10 (b.drop n)∧((b.drop n).getD (cnt 10 (b.drop n)) 0).toNat=0)∧r= .r (.sl 1 (bys ((b.drop n).take (cnt 10 (b.drop n)+1))))∧er=0)):
  zam Tryz.prog 101 [.r (.sl 1 (bys b)),.r (.v (.int .i64 n)),.r (.v (.int .i64 10))] [] (.tu [r,.r (.v (.int .i64 er))]) []:=by
 refine zaA Tryz.func101 rfl (Nat.le_of_ble_eq_true rfl) rfl rfl ?_
 have hll:=zas b
 have hdl:(b.drop n).length=b.length-n:=List.length_drop
 have hE1:(bys b).drop n=bys (b.drop n):=by simp[bys]
 obtain⟨g1,g2,g3⟩:=zj0 (b.drop n)
 obtain⟨f1,f2,_,_⟩:=zdM 10 (b.drop n)
 have hrl:=zas (b.drop n)
 have htl:((b.drop n).take 10).length=min 10 (b.drop n).length:=List.length_take
 have hc:=zhL ((b.drop n).take 10) (cnt 10 (b.drop n)) g1 g2 g3 (by omega)
 obtain⟨m,hm⟩:∃m:Nat,m=min 10 (b.drop n).length:=⟨_,rfl⟩
 have htm:(b.drop n).take 10=(b.drop n).take m:=by
  rcases Nat.le_total 10 (b.drop n).length with h|h
  ·rw[show m=10 by omega]
  ·rw[show m=(b.drop n).length by omega,List.take_of_length_le h,List.take_length]
 rw[htm]at hc g1 g2 g3 htl
 rw[←hm]at htl
 have hmn:(if(10:Int)<((bys (b.drop n)).length:Int)then 10 else((bys (b.drop n)).length:Int))=(m:Int):=by split <;>omega
 clear htm hE1 g2
 generalize hR:b.drop n=R at *
 generalize cnt 10 R=e at *
 rw[htl]at hc g1 g3
 (repeat' (first|(first|refine zeJ 4 ?_|refine zdI 4 ?_)|refine zeT ?_|refine zeV ?_|(refine zac (fun hb=>?_) (fun hb=>?_)<;>(try(exfalso;omega)))|fail))
 refine halt ?_
 rw[hR]
 rcases hr with⟨h1,rfl,rfl⟩|⟨h1,h2,rfl,rfl⟩|⟨h1,h2,⟨h3,h4⟩,rfl,rfl⟩|⟨h1,h2,h3,rfl,rfl⟩
 ·rw[if_neg (by omega)]at hc
  (repeat' (first|refine zad ?_|(refine is_f 128 ?_;refine zag (hc) ?_)|(refine zac (fun hb=>?_) (fun hb=>?_)<;>(try(exfalso;omega)))|fail))
  all_goals exact ret2 [] (.r _) (.r _) rfl rfl rfl rfl
 ·rw[if_neg (by omega)]at hc
  (repeat' (first|refine zad ?_|(refine is_f 128 ?_;refine zag (hc) ?_)|(refine zac (fun hb=>?_) (fun hb=>?_)<;>(try(exfalso;omega)))|fail))
  all_goals exact ret2 [] (.r _) (.r _) rfl rfl rfl rfl
 ·rw[if_pos (by omega)]at hc
  (repeat' (first|refine zad ?_|(refine is_f 128 ?_;refine zag (hc) ?_)|(refine zac (fun hb=>?_) (fun hb=>?_)<;>(try(exfalso;omega)))|fail))
  all_goals exact ret2 [] (.r _) (.r _) rfl rfl rfl rfl
 ·rw[if_pos (by omega)]at hc
  have h3':e=0∨((R.getD e 0).toNat:Int)≠0:=by omega
  (repeat' (first|refine zad ?_|(refine is_f 128 ?_;refine zag (hc) ?_)|(refine zac (fun hb=>?_) (fun hb=>?_)<;>(try(exfalso;omega)))|fail))
  all_goals (exact ret2 [] (.r _) (.r _) rfl rfl rfl rfl)
def rvS (a:Int) (g:List UInt8) (k:Nat):St:=
 ⟨[(1,.r (.v (.int .i64 a))),(7,.r (.sl 1 (bys g))),(9,.r (.v (.int .u64 (gv (g.take k))))),(30,.r (.sl 1 (bys g))),(31,.r (.v (.int .i64 g.length))),(32,.r (.v (.int .i64 k)))],[],0⟩
theorem zb7 (b:List UInt8) (a:Int) (hb:b.length≤211106232532992) (ha:I64 a):zam Tryz.prog 65 [.r (.sl 1 (bys b)),.r (.v (.int .i64 a))] [] (.tu [.r (.v (.int .u64 (rdN b a).1)),.r (.v (.int .i64 (rdN b a).2.1)),.r (.v (.int .i64 (rdN b a).2.2))]) []:=by
 refine zaA Tryz.func65 rfl (Nat.le_of_ble_eq_true rfl) rfl rfl ?_
 have ha2: -9223372036854775808≤a∧a<9223372036854775808:=ha
 by_cases hout:a<0∨(b.length:Int)<a
 ·rw[zkx b a hout]
  have hc:=zi6 b a hout
  (repeat' (first|refine zad ?_|(refine is_f 101 ?_;refine zag (hc) ?_)|(refine zac (fun hb=>?_) (fun hb=>?_)<;>(try(exfalso;omega)))|fail))
  all_goals exact ret3 [] (.r _) (.r _) (.r _) rfl rfl rfl rfl rfl
 ·obtain⟨n,rfl⟩:=Int.eq_ofNat_of_zero_le (show 0≤a by omega)
  have hn:n≤b.length:=by omega
  have hG:=zjY b n hn hb
  obtain⟨f1,f2,_,_⟩:=zdM 10 (b.drop n)
  have e1:=zky b n hn
  have e2:=zkv b n hn
  have e3:=zku b n hn
  have e4:=zkw b n hn
  have hdl:(b.drop n).length=b.length-n:=List.length_drop
  generalize b.drop n=R at *
  by_cases h1:cnt 10 R=10
  ·rw[e1 h1]
   have hc:=hG _ _ (.inl ⟨h1,rfl,rfl⟩)
   clear hG e1 e2 e3 e4
   (repeat' (first|refine zad ?_|(refine is_f 101 ?_;refine zag (hc) ?_)|(refine zac (fun hb=>?_) (fun hb=>?_)<;>(try(exfalso;omega)))|fail))
   all_goals exact ret3 [] (.r _) (.r _) (.r _) rfl rfl rfl rfl rfl
  by_cases h2:cnt 10 R=R.length
  ·rw[e2 h1 h2]
   have hc:=hG _ _ (.inr (.inl ⟨h1,h2,rfl,rfl⟩))
   clear hG e1 e2 e3 e4
   (repeat' (first|refine zad ?_|(refine is_f 101 ?_;refine zag (hc) ?_)|(refine zac (fun hb=>?_) (fun hb=>?_)<;>(try(exfalso;omega)))|fail))
   all_goals exact ret3 [] (.r _) (.r _) (.r _) rfl rfl rfl rfl rfl
  by_cases h3:0<cnt 10 R∧(R.getD (cnt 10 R) 0).toNat=0
  ·rw[e3 h1 h2 (.inl h3)]
   have hc:=hG _ _ (.inr (.inr (.inl ⟨h1,h2,h3,rfl,rfl⟩)))
   clear hG e1 e2 e3 e4
   (repeat' (first|refine zad ?_|(refine is_f 101 ?_;refine zag (hc) ?_)|(refine zac (fun hb=>?_) (fun hb=>?_)<;>(try(exfalso;omega)))|fail))
   all_goals exact ret3 [] (.r _) (.r _) (.r _) rfl rfl rfl rfl rfl
  have hc:=hG _ _ (.inr (.inr (.inr ⟨h1,h2,h3,rfl,rfl⟩)))
  clear hG e1 e2
  have hgl:(R.take (cnt 10 R+1)).length=cnt 10 R+1:=by rw[List.length_take];omega
  have hgb:=zas (R.take (cnt 10 R+1))
  have hg9:∀i,i≤cnt 10 R→(R.take (cnt 10 R+1)).getD i 0=R.getD i 0:=fun i hi=>by simp[List.getElem?_take,show i<cnt 10 R+1 by omega]
  by_cases h4:cnt 10 R=9∧1<(R.getD (cnt 10 R) 0).toNat
  ·rw[e3 h1 h2 (.inr h4)]
   have hg:=hg9 9 (by omega)
   have h41:=h4.1
   rw[h4.1]at h4
   rw[←hg]at h4
   generalize R.take (cnt 10 R+1)=g at *
   clear e3 e4
   (repeat' (first|refine zad ?_|(refine is_f 101 ?_;refine zag (hc) ?_)|(refine zac (fun hb=>?_) (fun hb=>?_)<;>(try(exfalso;omega)))|fail))
   all_goals exact ret3 [] (.r _) (.r _) (.r _) rfl rfl rfl rfl rfl
  ·rw[e4 h1 h2 (by omega)]
   have h64:=zoh (R.take (cnt 10 R+1)) (by omega) (fun h=>by rw[hg9 9 (by omega)];have :cnt 10 R=9:=by omega
                                                             rw[this]at h4;omega)
   have h4':cnt 10 R=9→((R.take (cnt 10 R+1)).getD 9 0).toNat≤1:=fun h=>by rw[hg9 9 (by omega)];rw[h]at h4;omega
   generalize R.take (cnt 10 R+1)=g at *
   generalize cnt 10 R=e at *
   clear e3 e4 h3 h4 hg9
   have hlast:g.length≠10∨((g.getD 9 0).toNat:Int)≤1:=by
    rcases Nat.lt_or_ge e 9 with h|h
    ·exact .inl (by omega)
    ·exact .inr (by have :=h4' (by omega);omega)
   have hi64:IntKind.i64.wrap ((n:Int)+((bys g).length:Int))=(n:Int)+((e+1:Nat):Int):=by rw[hgb,hgl];exact IntWalk.i64_in _ (by omega)
   have hg0:(0:Int)=((gv (g.take 0):Nat):Int):=rfl
   (repeat' (first|refine zad ?_|(refine is_f 101 ?_;refine zag (hc) ?_)|(refine zac (fun hb=>?_) (fun hb=>?_)<;>(try(exfalso;omega)))|fail))
   all_goals
    refine zap (rvS n g) (fun k=>k≤g.length) (fun k=>g.length-k) 0 (Nat.zero_le _) (by(refine Le.mk [] [] zaj zal zbk zah)) fun k hk=>?_
    rcases Nat.lt_or_ge k g.length with h|h
    · have hs:=zg1 g k h
      have hle:=zfO g (k+1)
      have hlt:gv (g.take k)<128^k:=by
        have :=zlz (g.take k)
        rwa [List.length_take,Nat.min_eq_left (by omega)]at this
      have c1:((g.getD k 0).toNat:Int).tmod 128=(((g.getD k 0).toNat%128:Nat):Int):=by rw[Int.tmod_eq_emod_of_nonneg (by omega)];omega
      have c2:IntKind.u64.wrap (((g.getD k 0).toNat%128:Nat):Int)=(((g.getD k 0).toNat%128:Nat):Int):=IntWalk.u64_in _ (by omega)
      have c3:IntKind.i64.wrap (7*(k:Int))=((7*k:Nat):Int):=by rw[IntWalk.i64_in _ (by omega)];omega
      have c4:IntKind.u64.wrap ((((g.getD k 0).toNat%128:Nat):Int)*2^(min (((7*k:Nat):Int)).toNat (IntKind.bits .u64)))=(((g.getD k 0).toNat%128*128^k:Nat):Int):=by
        have e1:min (((7*k:Nat):Int)).toNat (IntKind.bits .u64)=7*k:=by rw[Int.toNat_natCast];show min (7*k) 64=7*k;omega
        have e2:(((g.getD k 0).toNat%128:Nat):Int)*2^(7*k)=(((g.getD k 0).toNat%128*128^k:Nat):Int):=by
          rw[show(128:Nat)=2^7 from rfl,←Nat.pow_mul];push_cast;rfl
        rw[e1,e2]
        exact IntWalk.u64_in _ (by omega)
      have c5:bits .or .u64 ((gv (g.take k):Nat):Int) (((g.getD k 0).toNat%128*128^k:Nat):Int)=((gv (g.take (k+1)):Nat):Int):=by
        rw[zoo _ _ _ hlt (by omega),←hs]
      clear hs hle hlt
      (repeat' (first|refine zad ?_|(refine zac (fun hb=>?_) (fun hb=>?_)<;>(try(exfalso;omega)))|fail))
      all_goals exact⟨k+1,h,by(refine Le.mk [] [] zaj zal zbk zah),by omega⟩
    · have hgk:g.take k=g:=List.take_of_length_le h
      show awp _ _ _ _ _ (rvS n g k)
      unfold rvS
      rw[hgk]
      (repeat' (first|refine zad ?_|(refine zac (fun hb=>?_) (fun hb=>?_)<;>(try(exfalso;omega)))|fail))
      all_goals exact ret3 [] (.r _) (.r _) (.r _) rfl rfl rfl rfl rfl
theorem zeB (v:Nat) (hv:v<18446744073709551616):zam Tryz.prog 68 [.r (.v (.int .u64 v))] [] (.r (.v (.int .i64 (uz v)))) []:=by
 refine zaA Tryz.func68 rfl (Nat.le_of_ble_eq_true rfl) rfl rfl ?_
 have c1:(v:Int).fdiv (2^(min (1:Int).toNat (IntKind.bits .u64)))=((v/2:Nat):Int):=by
  rw[show(2:Int)^(min (1:Int).toNat (IntKind.bits .u64))=2 from rfl,Int.fdiv_eq_ediv_of_nonneg _ (by omega)];omega
 have c2:IntKind.i64.wrap ((v/2:Nat):Int)=((v/2:Nat):Int):=IntWalk.i64_in _ (by omega)
 have c3:bits .and .u64 (v:Int) 1=((v%2:Nat):Int):=by
  have :=u64_and_nat v 1 hv (by omega)
  rw[Nat.and_one_is_mod]at this
  exact this
 have c4:IntKind.i64.wrap ((v%2:Nat):Int)=((v%2:Nat):Int):=IntWalk.i64_in _ (by omega)
 rcases Nat.mod_two_eq_zero_or_one v with h|h
 ·have c5:IntKind.i64.wrap (0-((v%2:Nat):Int))=0:=by rw[h];rfl
  have c6:bits .xor .i64 ((v/2:Nat):Int) 0=uz v:=by
   unfold uz
   rw[if_pos h]
   show IntKind.i64.wrap ((BitVec.ofInt 64 ((v/2:Nat):Int)^^^BitVec.ofInt 64 0).toNat:Int)=_
   rw[BitVec.toNat_xor,ofInt_u64 (v/2) (by omega),show(BitVec.ofInt 64 0).toNat=0 from rfl,Nat.xor_zero]
   exact c2
  generalize uz v=z at *
  (repeat' (first|refine zad ?_|(refine zac (fun hb=>?_) (fun hb=>?_)<;>(try(exfalso;omega)))|fail))
  all_goals exact ret1 [] (.r _) rfl rfl rfl
 ·have c5:IntKind.i64.wrap (0-((v%2:Nat):Int))= -1:=by rw[h];rfl
  have c6:bits .xor .i64 ((v/2:Nat):Int) (-1)=uz v:=by
   unfold uz
   rw[if_neg (by omega)]
   show IntKind.i64.wrap ((BitVec.ofInt 64 ((v/2:Nat):Int)^^^BitVec.ofInt 64 (-1)).toNat:Int)=_
   rw[BitVec.toNat_xor,ofInt_u64 (v/2) (by omega),show(BitVec.ofInt 64 (-1)).toNat=18446744073709551615 from by decide+kernel,ziR _ (by omega),IntKind.wrap_i64]
   omega
  generalize uz v=z at *
  (repeat' (first|refine zad ?_|(refine zac (fun hb=>?_) (fun hb=>?_)<;>(try(exfalso;omega)))|fail))
  all_goals exact ret1 [] (.r _) rfl rfl rfl
theorem zdv (b:List UInt8) (a:Int) (hb:b.length≤211106232532992) (ha:I64 a):zam Tryz.prog 66 [.r (.sl 1 (bys b)),.r (.v (.int .i64 a))] [] (.tu [.r (.v (.int .i64 (rdS b a).1)),.r (.v (.int .i64 (rdS b a).2.1)),.r (.v (.int .i64 (rdS b a).2.2))]) []:=by
 refine zaA Tryz.func66 rfl (Nat.le_of_ble_eq_true rfl) rfl rfl ?_
 have hc:=zb7 b a hb ha
 obtain⟨h1,h2,h3,h4⟩:=zfv b a
 unfold rdS
 generalize rdN b a=z at *
 obtain⟨v,nx,e⟩:=z
 dsimp only at *
 have hu:=zeB v h1
 by_cases he:e=0
 ·rw[if_pos he]
  subst he
  (repeat' (first|refine zad ?_|(refine is_f 65 ?_;refine zag (hc) ?_)|(refine is_f 68 ?_;refine zag (hu) ?_)|(refine zac (fun hb=>?_) (fun hb=>?_)<;>(try(exfalso;omega)))|fail))
  all_goals exact ret3 [] (.r _) (.r _) (.r _) rfl rfl rfl rfl rfl
 ·rw[if_neg he]
  (repeat' (first|refine zad ?_|(refine is_f 65 ?_;refine zag (hc) ?_)|(refine is_f 68 ?_;refine zag (hu) ?_)|(refine zac (fun hb=>?_) (fun hb=>?_)<;>(try(exfalso;omega)))|fail))
  all_goals exact ret3 [] (.r _) (.r _) (.r _) rfl rfl rfl rfl rfl
end Go.Proofs.YthiioppfnmcclaaGreat
namespace Go.Proofs.YthiioppfnmcclaaGreat
open Go.RowKit Go.Ab Go.Wd
def neS (l:List Nat) (i s:Nat):St:=⟨[(0,.r (.sl 1 (wns l))),(4,.r (.v (.int .i64 (s:Int)))),(16,.r (.sl 1 (wns l))),(17,.r (.v (.int .i64 (l.length:Int)))),(18,.r (.v (.int .i64 (i:Int))))],[],0⟩
def nfS (l:List Nat) (i:Nat):St:=⟨[(10,.ow 0),(47,.r (.sl 1 (wns l))),(48,.r (.v (.int .i64 (l.length:Int)))),(49,.r (.v (.int .i64 (i:Int))))],[(0,some (.row 5 1 (bys (0::(l.take i).flatMap vb))))],1⟩
theorem zm1 {l:List Nat} (i:Nat):((l.take i).flatMap vb).length≤10*l.length:=by
 have h1:=zgn (l.take i)
 have h2:=ziz (l.take i)
 have h3:(l.take i).length≤l.length:=by rw[List.length_take];omega
 omega
theorem zdZ (l:List Nat) (h:∀v∈l,v<B64) (hn:l.length≤65536):zam Tryz.prog 41 [.r (.sl 1 (wns l))] [] (.tu [.fr 5 1 (bys (encN l)),.r (.v (.int .i64 0))]) []:=by
 have hl:=zbu l
 have e0:((wns l).length:Int)=(l.length:Int):=by rw[hl]
 have hp:=ziz l
 have cW:=zld l h (by omega)
 have cP:=zor l h hn
 have hpl:=zgm l
 have hbl:=zas (pkL l)
 have hw:=zlc h
 have hnw:l.length*wdt l≤65536*64:=Nat.mul_le_mul hn hw
 have hz:psz l.length (wdt l)≤1000000:=by unfold psz;omega
 clear hnw
 refine zaA Tryz.func41 rfl (Nat.le_of_ble_eq_true rfl) rfl rfl ?_
 (repeat' (first|refine zad ?_|(refine zac (fun hb=>?_) (fun hb=>?_)<;>(try(exfalso;omega)))|fail))
 all_goals (first|(exfalso;omega)|skip)
 refine zap (fun x:Nat×Nat=>neS l x.1 x.2) (fun x=>x.1≤l.length∧x.2+plS (l.drop x.1)=plS l+1) (fun x=>l.length-x.1) (0,1) ⟨Nat.zero_le _,Nat.add_comm _ _⟩ (by(refine Le.mk [] [] zaj zal zan zah)) fun x hx=>?_
 obtain⟨i,s⟩:=x
 obtain⟨hi,hs⟩:=hx
 dsimp only at hi hs
 change awp _ _ _ _ _ (neS l i s)
 rcases Nat.lt_or_ge i l.length with hi'|hi'
 ·have hg:=zch (l:=l) hi'
  have hv:=h _ (getD_mem hi')
  have hd:l.drop i=l.getD i 0::l.drop (i+1):=by rw[List.drop_eq_getElem_cons hi',List.getD_eq_getElem?_getD,List.getElem?_eq_getElem hi'];rfl
  rw[hd,plS]at hs
  have cS:=zoB _ hv
  have hvl:=(zbe (l.getD i 0)).2
  generalize l.getD i 0=v at *
  have hn':=zaE i (by omega)
  have hs2:s+(vb v).length+plS (l.drop (i+1))=plS l+1:=by omega
  have hadd:(s:Int)+((vb v).length:Int)=((s+(vb v).length:Nat):Int):=by omega
  clear hs cW cP hd
  generalize(vb v).length=k at *
  (repeat' (first|refine zad ?_|(refine is_f 62 ?_;refine zag (cS) ?_)|(refine zac (fun hb=>?_) (fun hb=>?_)<;>(try(exfalso;omega)))|fail))
  all_goals (first|(exfalso;omega)|exact⟨(i+1,s+k),⟨hi',hs2⟩,by show Le _ _ (neS l (i+1) (s+k));(refine Le.mk [] [] zaj zal zan zah),by show l.length-(i+1)<l.length-i;omega⟩)
 ·rw[List.drop_eq_nil_of_le hi']at hs
  have hs:s+1=plS l+1:=hs
  obtain rfl:s=plS l:=by omega
  clear hs
  by_cases hc:2+psz l.length (wdt l)<plS l
  ·have hE:[[.v (.int .u8 1)],[.v (.int .u8 ((wdt l:Nat):Int))]]++bys (pkL l)=bys (encN l):=by
    unfold encN
    rw[if_pos hc]
    simp only[bys,List.map_cons]
    rw[zgF,Nat.mod_eq_of_lt (show wdt l<256 by omega)]
    rfl
   have hcv:IntKind.u8.wrap ((wdt l:Nat):Int)=((wdt l:Nat):Int):=by rw[IntKind.wrap_u8];omega
   generalize encN l=E at *
   generalize wdt l=w at *
   generalize pkL l=P at *
   generalize psz l.length w=z at *
   generalize plS l=S at *
   (repeat' (first|refine zad ?_|(refine is_f 63 ?_;refine zag (cW) ?_)|(refine is_f 64 ?_;refine zag (cP) ?_)|(refine zac (fun hb=>?_) (fun hb=>?_)<;>(try(exfalso;omega)))|fail))
   all_goals (first|(exfalso;omega)|(rw[hE];exact ret2 [] (.fr 2 _ _ _ rfl) (.int rfl) rfl rfl rfl rfl))
  ·have hE:encN l=0::l.flatMap vb:=if_neg hc
   rw[hE]
   have h00:List.replicate 1 (List.map RV.v [Value.int .u8 0])=bys (0::(l.take 0).flatMap vb):=rfl
   have hS1:1≤plS l:=by have :=zgn l;omega
   have cA:=fun v (hv:v<B64)=>zbm [] v hv (by simp)
   generalize wdt l=w at *
   generalize pkL l=P at *
   generalize psz l.length w=z at *
   generalize plS l=Z at *
   (repeat' (first|(refine zcp ?_;refine zak rfl (.inl ⟨rfl,rfl⟩) (zg4 (m:=1) (c:=Z) rfl rfl (by omega)) rfl ?_)|refine zad ?_|(refine is_f 63 ?_;refine zag (cW) ?_)|(refine is_f 64 ?_;refine zag (cP) ?_)|(refine zac (fun hb=>?_) (fun hb=>?_)<;>(try(exfalso;omega)))|fail))
   all_goals (first|(exfalso;omega)|skip)
   clear cW cP
   refine zap (fun i=>nfS l i) (fun i=>i≤l.length) (fun i=>l.length-i) 0 (Nat.zero_le _) (by(refine Le.mk [(0,1)] [] zaj zal zan zah)) fun i hi=>?_
   clear h00
   change awp _ _ _ _ _ (nfS l i)
   have hfl:=zm1 (l:=l) i
   have hbl:=zas (0::(l.take i).flatMap vb)
   rw[List.length_cons]at hbl
   rcases Nat.lt_or_ge i l.length with hi'|hi'
   ·have hg:=zch (l:=l) hi'
    have hv:=h _ (getD_mem hi')
    have hn':=zaE i (by omega)
    have cV:=cA _ hv
    have hvl:=(zbe (l.getD i 0)).2
    have hbv:=zas (vb (l.getD i 0))
    have hE1:bys (0::(l.take i).flatMap vb)++bys (vb (l.getD i 0))=bys (0::(l.take (i+1)).flatMap vb):=by
     rw[←zbf,zaI l i 0 hi',List.flatMap_append]
     simp
    rw[List.nil_append]at cV
    clear cA hE
    unfold nfS
    generalize vb (l.getD i 0)=V at *
    generalize(l.take i).flatMap vb=F at *
    (repeat' (first|refine zad ?_|(refine is_f 21 ?_;refine zag (cV) ?_)|(refine zac (fun hb=>?_) (fun hb=>?_)<;>(try(exfalso;omega)))|fail))
    all_goals (first|(exfalso;omega)|exact⟨i+1,hi',by show Le _ _ (nfS l (i+1));(refine Le.mk [(0,2)] [] zaj zal zan zah),by show l.length-(i+1)<l.length-i;omega⟩)
   ·unfold nfS
    rw[List.take_of_length_le hi']
    clear cA hE
    (repeat' (first|refine zad ?_|(refine zac (fun hb=>?_) (fun hb=>?_)<;>(try(exfalso;omega)))|fail))
    all_goals (first|(exfalso;omega)|exact ret2 [] (.fr 0 _ _ _ rfl) (.int rfl) rfl rfl rfl rfl)
end Go.Proofs.YthiioppfnmcclaaGreat
