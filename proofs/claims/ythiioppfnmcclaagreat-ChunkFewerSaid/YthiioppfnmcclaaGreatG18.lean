/- Texts of the second layer in one: Tq7 Sx1 Rs3 Nb2 Bk3 Nm2. -/
import Derived.Test.YthiioppfnmcclaaGreatG17
import Derived.Test.YthiioppfnmcclaaGreatG4
import Derived.Test.YthiioppfnmcclaaGreatG15
import Derived.Test.YthiioppfnmcclaaGreatG12
import Derived.Test.YthiioppfnmcclaaGreatG7
set_option maxHeartbeats 4000000
set_option maxRecDepth 100000
set_option linter.unusedVariables false
set_option linter.unusedSimpArgs false
namespace Go.Proofs.YthiioppfnmcclaaGreat
open Go.RowKit Go.Ab
def inc (l:List Int):Bool:=allR (l.length-1) fun j=>decide (l.getD j 0<l.getD (j+1) 0)
theorem zoj (l:List Int) (hl:l.length≤140737488355328):zam Tryz.prog 36 [.r (.sl 1 (nums .i64 l))] [] (.r (.v (.bool (inc l)))) []:=by
 refine zaA Tryz.func36 rfl (Nat.le_of_ble_eq_true rfl) rfl rfl ?_
 have hlen:(nums .i64 l).length=l.length:=zao .i64 l
 (repeat' (first|refine zaC ?_|(refine zar (fun hb=>?_) (fun hb=>?_)<;>(try(exfalso;omega)))|fail))
 refine zap (fun k=>⟨[(0,.r (.sl 1 (nums .i64 l))),(3,.r (.v (.int .i64 ((k+1:Nat):Int))))],[],0⟩) (fun k=>(k=0∨k+1≤l.length)∧∀i,i<k→decide (l.getD i 0<l.getD (i+1) 0)=true) (fun k=>l.length-k) 0 ⟨.inl rfl,fun i h=>by omega⟩ (by(refine Le.mk [] [] rfl za9 zaT zah)) fun k hk=>?_
 obtain⟨hk,hall⟩:=hk
 have hkk:l.getD (k+1-1) 0=l.getD k 0:=rfl
 rcases Nat.lt_or_ge (k+1) l.length with h|h
 ·by_cases hlt:l.getD k 0<l.getD (k+1) 0
  ·(repeat' (first|refine zaC ?_|(refine zar (fun hb=>?_) (fun hb=>?_)<;>(try(exfalso;omega)))|fail))
   all_goals exact⟨k+1,⟨.inr (by omega),fun i hi=>if h2:i<k then hall i h2 else(show i=k by omega)▸decide_eq_true hlt⟩,by(refine Le.mk [] [] rfl za9 zaT zah),by omega⟩
  ·(repeat' (first|refine zaC ?_|(refine zar (fun hb=>?_) (fun hb=>?_)<;>(try(exfalso;omega)))|fail))
   all_goals exact ret1 [] (.bool (ziT k (by omega) (decide_eq_false hlt))) rfl rfl rfl
 ·(repeat' (first|refine zaC ?_|(refine zar (fun hb=>?_) (fun hb=>?_)<;>(try(exfalso;omega)))|fail))
  all_goals exact ret1 [] (.bool (zgN fun i hi=>hall i (by omega))) rfl rfl rfl
def dst (a b:Int):Int:=if a<b then b-a else a-b
theorem zjV (a b:Int) (h:I64 a) (h':I64 b) (hab:a≤b):IntKind.u64.wrap (IntKind.u64.wrap b-IntKind.u64.wrap a)=b-a:=by
 unfold I64 at h h'
 rw[u64w,u64w,u64w];omega
theorem zjU (a b:Int) (ha:I64 a) (hb0:I64 b):zam Tryz.prog 40 [.r (.v (.int .i64 a)),.r (.v (.int .i64 b))] [] (.r (.v (.int .u64 (dst a b)))) []:=by
 refine zaA Tryz.func40 rfl (Nat.le_of_ble_eq_true rfl) rfl rfl ?_
 by_cases h:a<b
 ·have h1:=zjV a b ha hb0 (by omega)
  have h2:b-a=dst a b:=(if_pos h).symm
  (repeat' (first|refine zaC ?_|(refine zar (fun hb=>?_) (fun hb=>?_)<;>(try(exfalso;omega)))|fail))
  all_goals exact ret1 [] (.int h2) rfl rfl rfl
 ·have h1:=zjV b a hb0 ha (by omega)
  have hmin:(if b<a then b else a)=b:=by split <;>omega
  have h2:a-b=dst a b:=(if_neg h).symm
  (repeat' (first|refine zaC ?_|(refine zar (fun hb=>?_) (fun hb=>?_)<;>(try(exfalso;omega)))|fail))
  all_goals exact ret1 [] (.int h2) rfl rfl rfl
end Go.Proofs.YthiioppfnmcclaaGreat
namespace Go.Proofs.YthiioppfnmcclaaGreat
open Go.RowKit Go.Ab Go.Wd
theorem zkQ:∀(l:List Int) (d p:Int) (i:Nat),i+1<l.length→(stG d p l).getD (i+1) 0=zz (w64 (l.getD (i+1) 0-l.getD i 0-(l.getD i 0-(p::l).getD i 0)))
 |v::u::l,d,p,0,_=>by simp[stG]
 |[v],d,p,0,h=>by simp at h
 |v::l,d,p,i+1,h=>by
  have :=zkQ l (v-p) v i (by simpa using h)
  simpa[stG]using this
theorem zoC {l:List Int} (h:1<l.length):(stL l).getD 0 0=(l.getD 1 0-l.getD 0 0-1).toNat:=by
 match l,h with
 |x::y::l,_=>simp[stL]
theorem zkS {l:List Int} {i:Nat} (h:i+2<l.length):(stL l).getD (i+1) 0=zz (w64 (l.getD (i+2) 0-l.getD (i+1) 0-(l.getD (i+1) 0-l.getD i 0))):=by
 match l,h with
 |x::y::z::l,_=>
  cases i with
  |zero=>simp[stL,stG]
  |succ i=>
   have :=zkQ (z::l) (y-x) y i (by simp at *;omega)
   simpa[stL]using this
def bfs (l:List Int):Nat→Int
 |0=>0
 |k+1=>l.getD (k+1) 0-l.getD k 0
theorem ze5 {l:List Int} (h:Asc l) {i:Nat} (hi:i+1<l.length):l.getD i 0<l.getD (i+1) 0:=by
 have :=(List.pairwise_iff_getElem.1 h) i (i+1) (by omega) hi (by omega)
 rw[List.getD_eq_getElem?_getD,List.getElem?_eq_getElem (show i<l.length by omega),List.getD_eq_getElem?_getD,List.getElem?_eq_getElem hi]
 exact this
theorem zhK {l:List Int} (h:Asc l):inc l=true:=(zgN fun i hi=>decide_eq_true (ze5 h (by omega))).symm
theorem zaY {l:List Int} (h:∀v∈l,In64 v) (i:Nat):I64 (l.getD i 0):=by
 rcases Nat.lt_or_ge i l.length with hi|hi
 ·exact h _ (by rw[List.getD_eq_getElem?_getD,List.getElem?_eq_getElem hi];exact List.getElem_mem hi)
 ·rw[List.getD_eq_getElem?_getD,List.getElem?_eq_none hi];exact⟨by decide,by decide⟩
def sxS (l:List Int) (k:Nat):St:=⟨[(0,.r (.sl 1 (nums .i64 l))),(4,.ow 0),(5,.r (.v (.int .u64 (bfs l k)))),(6,.r (.v (.int .i64 ((k+1:Nat):Int))))],[(0,some (.row 49 1 (wns ((stL l).take k))))],1⟩
theorem zg6 {l:List Int} {i:Nat} (h:i<l.length):(nums .i64 l)[i]? =some [.v (.int .i64 (l.getD i 0))]:=by
 simp[nums,List.getElem?_map,List.getElem?_eq_getElem h]
theorem zkP (l:List Int) (h:∀v∈l,In64 v) (ha:Asc l) (h1:1≤l.length) (hn:l.length≤65536):zam Tryz.prog 23 [.r (.sl 1 (nums .i64 l))] [] (.tu [.fr 5 1 (bys (stE l)),.r (.v (.int .i64 0))]) []:=by
 have hlen:(nums .i64 l).length=l.length:=zao .i64 l
 have e0:((nums .i64 l).length:Int)=(l.length:Int):=by rw[hlen]
 have cI:=zoj l (by omega)
 rw[zhK ha]at cI
 have hsl:=zcV l
 have cN:=zdZ (stL l) (zkT h) (by omega)
 refine zaA Tryz.func23 rfl (Nat.le_of_ble_eq_true rfl) rfl rfl ?_
 (repeat' (first|refine zad ?_|(refine is_f 36 ?_;refine zag (cI) ?_)|(refine zac (fun hb=>?_) (fun hb=>?_)<;>(try(exfalso;omega)))|fail))
 all_goals (first|(exfalso;omega)|skip)
 refine zcl 4 49 1 rfl rfl ?_
 have h00:([]:List (List RV))=wns ((stL l).take 0):=rfl
 refine zap (sxS l) (fun k=>k+1≤l.length) (fun k=>l.length-k) 0 h1 (by show Le _ _ (sxS l 0);(refine Le.mk [(0,0)] [] zaj zal zan zah)) fun k hk=>?_
 change awp _ _ _ _ _ (sxS l k)
 have hr1:(wns ((stL l).take k)).length=k:=by rw[zbu,List.length_take];omega
 rcases Nat.lt_or_ge (k+1) l.length with hlt|hge
 ·have hkk:l.getD (k+1-1) 0=l.getD k 0:=rfl
  have g1:=zaY h k
  have g2:=zaY h (k+1)
  have hasc:=ze5 ha hlt
  have cD:=zjU (l.getD (k+1) 0) (l.getD k 0) g2 g1
  rw[show dst (l.getD (k+1) 0) (l.getD k 0)=bfs l (k+1) by unfold dst;rw[if_neg (by omega)];rfl]at cD
  have hbf:bfs l (k+1)=l.getD (k+1) 0-l.getD k 0:=rfl
  have hE:wns ((stL l).take k)++[[.v (.int .u64 (((stL l).getD k 0:Nat):Int))]]=wns ((stL l).take (k+1)):=by
   rw[zaI (stL l) k 0 (by omega)];simp[wns]
  have hinc:=zaE (k+1) (by omega)
  unfold I64 at g1 g2
  have gk1:=zg6 (l:=l) hlt
  have gk0:=zg6 (l:=l) (i:=k) (by omega)
  cases k with
  |zero=>
   have hv:(((stL l).getD 0 0:Nat):Int)=bfs l (0+1)-1:=by rw[zoC hlt,hbf];simp only[Nat.zero_add]at *;omega
   rw[hv]at hE
   unfold sxS
   clear cN cI hv
   (repeat' (first|refine zad ?_|(refine is_f 40 ?_;refine zag (cD) ?_)|(refine zac (fun hb=>?_) (fun hb=>?_)<;>(try(exfalso;omega)))|fail))
   all_goals (first|(exfalso;omega)|exact⟨0+1,hlt,by show Le _ _ (sxS l (0+1));(refine Le.mk [(0,2)] [] zaj zal zan zah),by show l.length-(0+1)<l.length-0;omega⟩)
  |succ k=>
   have g0:=zaY h k
   unfold I64 at g0
   have hasc0:=ze5 ha (i:=k) (by omega)
   have hb0:bfs l (k+1)=l.getD (k+1) 0-l.getD k 0:=rfl
   have hv:(stL l).getD (k+1) 0=zz (w64 (bfs l (k+1+1)-bfs l (k+1))):=zkS (by omega)
   rw[hv]at hE
   have cZ:=zgK (w64 (bfs l (k+1+1)-bfs l (k+1))) (ziN _)
   have c1:IntKind.u64.wrap (bfs l (k+1+1)-bfs l (k+1))=(bfs l (k+1+1)-bfs l (k+1))%18446744073709551616:=IntKind.wrap_u64 _
   have c2:IntKind.i64.wrap ((bfs l (k+1+1)-bfs l (k+1))%18446744073709551616)=w64 (bfs l (k+1+1)-bfs l (k+1)):=by rw[IntKind.wrap_i64];unfold w64;omega
   unfold sxS
   clear cN cI hv
   generalize w64 (bfs l (k+1+1)-bfs l (k+1))=W at *
   (repeat' (first|refine zad ?_|(refine is_f 40 ?_;refine zag (cD) ?_)|(refine is_f 39 ?_;refine zag (cZ) ?_)|(refine zac (fun hb=>?_) (fun hb=>?_)<;>(try(exfalso;omega)))|fail))
   all_goals (first|(exfalso;omega)|exact⟨k+1+1,hlt,by show Le _ _ (sxS l (k+1+1));(refine Le.mk [(0,2)] [] zaj zal zan zah),by show l.length-(k+1+1)<l.length-(k+1);omega⟩)
 ·obtain rfl:k=l.length-1:=by omega
  have e:(stL l).take (l.length-1)=stL l:=List.take_of_length_le (by omega)
  unfold sxS
  rw[e]
  (repeat' (first|refine zad ?_|(refine is_f 41 ?_;refine zbH (cN) ?_)|(refine zac (fun hb=>?_) (fun hb=>?_)<;>(try(exfalso;omega)))|fail))
  all_goals (first|(exfalso;omega)|exact ret2 [] (.fr 1 _ _ _ rfl) (.int rfl) rfl rfl rfl rfl)
def mxS (l D:List Int) (i:Nat):St:=⟨[(0,.ow 0),(2,.r (.v (.int .i64 (i:Int))))],[(0,some (.row 2 1 (nums .i64 (l.take (i+1)++D.drop (i+1)))))],1⟩
theorem zeP (l:List Int) (i:Nat) (x:Int):(nums .i64 l).set i [.v (.int .i64 x)]=nums .i64 (l.set i x):=by unfold nums;rw[List.map_set]
theorem zm0 (l:List Int) (hl:l.length≤1000000):zam Tryz.prog 197 [.ow 0] [.row 2 1 (nums .i64 l)] (.tu []) [some (.row 2 1 (nums .i64 (difs l)))]:=by
 have hlen:(nums .i64 l).length=l.length:=zao .i64 l
 refine zjX Tryz.func197 rfl (Nat.le_of_ble_eq_true rfl) rfl rfl ?_
 rcases Nat.eq_zero_or_pos l.length with h0|h0
 ·obtain rfl:=List.eq_nil_of_length_eq_zero h0
  (repeat' (first|refine zad ?_|(refine zac (fun hb=>?_) (fun hb=>?_)<;>(try(exfalso;omega)))|fail))
  refine zap (fun _:Nat=>⟨[(0,.ow 0),(2,.r (.v (.int .i64 (-1))))],[(0,some (.row 2 1 (nums .i64 [])))],1⟩) (fun _=>True) (fun _=>0) 0 trivial (by(refine Le.mk [(0,0)] [] zaj zal zan zah)) fun _ _=>?_
  (repeat' (first|refine zad ?_|(refine zac (fun hb=>?_) (fun hb=>?_)<;>(try(exfalso;omega)))|fail))
  all_goals (first|(exfalso;omega)|exact ret0 rfl (zcC rfl rfl) (.inl rfl)|exact ret0 rfl (zcC rfl rfl) (.inr rfl))
 ·have h00:nums .i64 l=nums .i64 (l.take (l.length-1+1)++(difs l).drop (l.length-1+1)):=by
   rw[show l.length-1+1=l.length by omega,List.take_length,List.drop_eq_nil_of_le (by rw[zbG];omega),List.append_nil]
  have h01:(((nums .i64 l).length-1:Nat):Int)=((l.length-1:Nat):Int):=by rw[hlen]
  (repeat' (first|refine zad ?_|(refine zac (fun hb=>?_) (fun hb=>?_)<;>(try(exfalso;omega)))|fail))
  refine zap (mxS l (difs l)) (fun i=>i+1≤l.length) (fun i=>i) (l.length-1) (by omega) (by show Le _ _ (mxS l (difs l) (l.length-1));(refine Le.mk [(0,0)] [] zaj zal zan zah)) fun i hi=>?_
  change awp _ _ _ _ _ (mxS l (difs l) i)
  have hD:=zbG l
  cases i with
  |zero=>
   have e:l.take (0+1)++(difs l).drop (0+1)=difs l:=zke hD (zoe l)
   unfold mxS
   rw[e]
   (repeat' (first|refine zad ?_|(refine zac (fun hb=>?_) (fun hb=>?_)<;>(try(exfalso;omega)))|fail))
   all_goals (first|(exfalso;omega)|exact ret0 rfl (zcC rfl rfl) (.inl rfl)|exact ret0 rfl (zcC rfl rfl) (.inr rfl))
  |succ j=>
   have hE:(nums .i64 (l.take (j+1+1)++(difs l).drop (j+1+1))).set (j+1) [.v (.int .i64 ((difs l).getD (j+1) 0))]=nums .i64 (l.take (j+1)++(difs l).drop (j+1)):=by
    rw[zeP,zlH hD (by omega)]
   have hml:=znd l (difs l) hD (j+1+1)
   have hg1:=zdo (l:=l) (D:=difs l) (i:=j+1+1) (j:=j+1) (by omega) (by omega)
   have hg0:=zdo (l:=l) (D:=difs l) (i:=j+1+1) (j:=j) (by omega) (by omega)
   unfold mxS
   generalize l.take (j+1+1)++(difs l).drop (j+1+1)=M at *
   have hnl:=zao .i64 M
   have cD:=zod (M.getD (j+1) 0) (M.getD j 0)
   have hcv:IntKind.i64.wrap ((M.getD (j+1) 0-M.getD j 0)%18446744073709551616)=(difs l).getD (j+1) 0:=by
    rw[hg1,hg0,zlt (by omega),IntKind.wrap_i64];unfold w64;omega
   have hj:((j+1-1:Nat):Int)=(j:Int):=rfl
   (repeat' (first|refine zad ?_|(refine is_f 198 ?_;refine zag (cD) ?_)|(refine zac (fun hb=>?_) (fun hb=>?_)<;>(try(exfalso;omega)))|fail))
   all_goals (first|(exfalso;omega)|exact⟨j,by omega,by show Le _ _ (mxS l (difs l) j);(refine Le.mk [(0,0)] [] zaj zal zan zah),by show j<j+1;omega⟩)
def smRS (l D:List Int) (k:Nat):St:=⟨[(0,.ow 0),(2,.r (.v (.int .i64 ((k+1:Nat):Int))))],[(0,some (.row 2 1 (nums .i64 (D.take (k+1)++l.drop (k+1)))))],1⟩
theorem zoE (l:List Int) (hl:l.length≤1000000):zam Tryz.prog 193 [.ow 0] [.row 2 1 (nums .i64 l)] (.tu []) [some (.row 2 1 (nums .i64 (sums l)))]:=by
 have hlen:(nums .i64 l).length=l.length:=zao .i64 l
 have hD:=ziI l
 refine zjX Tryz.func193 rfl (Nat.le_of_ble_eq_true rfl) rfl rfl ?_
 have h00:nums .i64 l=nums .i64 ((sums l).take (0+1)++l.drop (0+1)):=by rw[zke (l:=sums l) (D:=l) hD.symm (zoD l).symm]
 (repeat' (first|refine zad ?_|(refine zac (fun hb=>?_) (fun hb=>?_)<;>(try(exfalso;omega)))|fail))
 refine zap (smRS l (sums l)) (fun k=>k=0∨k+1≤l.length) (fun k=>l.length-k) 0 (.inl rfl) (by show Le _ _ (smRS l (sums l) 0);(refine Le.mk [(0,0)] [] zaj zal zan zah)) fun k hk=>?_
 change awp _ _ _ _ _ (smRS l (sums l) k)
 have hml:((sums l).take (k+1)++l.drop (k+1)).length=l.length:=by rw[List.length_append,List.length_take,List.length_drop,hD];omega
 rcases Nat.lt_or_ge (k+1) l.length with h|h
 ·have hE:(nums .i64 ((sums l).take (k+1)++l.drop (k+1))).set (k+1) [.v (.int .i64 ((sums l).getD (k+1) 0))]=nums .i64 ((sums l).take (k+1+1)++l.drop (k+1+1)):=by
   rw[zeP,zkf hD h]
  have hg1:=zjd (l:=sums l) (D:=l) hD.symm (i:=k+1) (j:=k+1) (Nat.le_refl _) (by omega)
  have hg0:=zdo (l:=sums l) (D:=l) (i:=k+1) (j:=k) (by omega) (by omega)
  unfold smRS
  generalize(sums l).take (k+1)++l.drop (k+1)=M at *
  have hnl:=zao .i64 M
  have hcv:IntKind.u64.wrap (M.getD k 0)=M.getD k 0%18446744073709551616:=IntKind.wrap_u64 _
  have cA:=zjz (M.getD (k+1) 0) (M.getD k 0%18446744073709551616)
  rw[show w64 (M.getD (k+1) 0+M.getD k 0%18446744073709551616)=(sums l).getD (k+1) 0 by rw[hg1,hg0,zmh h];unfold w64;omega]at cA
  have hj:((k+1-1:Nat):Int)=(k:Int):=rfl
  have hinc:=zaE (k+1) (by omega)
  (repeat' (first|refine zad ?_|(refine is_f 69 ?_;refine zag (cA) ?_)|(refine zac (fun hb=>?_) (fun hb=>?_)<;>(try(exfalso;omega)))|fail))
  all_goals (first|(exfalso;omega)|exact⟨k+1,.inr h,by show Le _ _ (smRS l (sums l) (k+1));(refine Le.mk [(0,0)] [] zaj zal zan zah),by show l.length-(k+1)<l.length-k;omega⟩)
 ·have e:(sums l).take (k+1)++l.drop (k+1)=sums l:=by rw[List.drop_eq_nil_of_le h,List.append_nil,List.take_of_length_le (by omega)]
  unfold smRS
  rw[e]at hml ⊢
  have hnl:=zao .i64 (sums l)
  (repeat' (first|refine zad ?_|(refine zac (fun hb=>?_) (fun hb=>?_)<;>(try(exfalso;omega)))|fail))
  all_goals (first|(exfalso;omega)|exact ret0 rfl (zcC rfl rfl) (.inl rfl)|exact ret0 rfl (zcC rfl rfl) (.inr rfl))
def rpS (g n:Nat) (l:List Int) (f:List Int→List Int) (i:Nat):St:=⟨[(0,.ow 0),(2,.r (.v (.func (.func g) #[] #[]))),(6,.r (.v (.int .i64 (n:Int)))),(7,.r (.v (.int .i64 (i:Int))))],[(0,some (.row 2 1 (nums .i64 (zaO f i l))))],1⟩
theorem ziD (g:Nat) (hcb:zdJ Tryz.prog g=true) (f:List Int→List Int) (l:List Int) (n:Nat) (hn:n≤2)
  (hf:∀i,i<n→zam Tryz.prog g [.ow 0] [.row 2 1 (nums .i64 (zaO f i l))] (.tu []) [some (.row 2 1 (nums .i64 (f (zaO f i l))))]):
  zam Tryz.prog 192 [.ow 0,.r (.v (.int .i64 (n:Int))),.r (.v (.func (.func g) #[] #[]))] [.row 2 1 (nums .i64 l)] (.tu []) [some (.row 2 1 (nums .i64 (zaO f n l)))]:=by
 refine zjX Tryz.func192 rfl (Nat.le_of_ble_eq_true rfl) rfl rfl ?_
 have h00:nums .i64 l=nums .i64 (zaO f 0 l):=rfl
 (repeat' (first|refine zad ?_|(refine zac (fun hb=>?_) (fun hb=>?_)<;>(try(exfalso;omega)))|fail))
 refine zap (rpS g n l f) (fun i=>i≤n) (fun i=>n-i) 0 (Nat.zero_le _) (by show Le _ _ (rpS g n l f 0);(refine Le.mk [(0,0)] [] zaj zal zan zah)) fun i hi=>?_
 change awp _ _ _ _ _ (rpS g n l f i)
 rcases Nat.lt_or_ge i n with h|h
 ·have cF:=hf i h
  rw[←zdB f i l]at cF
  have hinc:=zaE i (by omega)
  unfold rpS
  (repeat' (first|refine zad ?_|((refine zdW ?_;refine zbt zbr [0] _ _ (cF) za1 zbq zdD rfl rfl rfl zaa ?_);try dsimp only[AV.unfr,AV.unfrs,frsL,pairs,rdOf,@List.length_cons Blk,@List.length_nil Blk,@List.nil_append (Nat×Option Blk),@List.cons_append (Nat×Option Blk),@List.nil_append Blk,@List.cons_append Blk,Nat.add_zero,Nat.zero_add,Nat.reduceAdd])|(refine zac (fun hb=>?_) (fun hb=>?_)<;>(try(exfalso;omega)))|fail))
  all_goals (first|(exfalso;omega)|exact⟨i+1,h,by show Le _ _ (rpS g n l f (i+1));(refine Le.mk [(0,0)] [] zaj zal zan zah),by show n-(i+1)<n-i;omega⟩)
 ·obtain rfl:i=n:=by omega
  unfold rpS
  (repeat' (first|refine zad ?_|(refine zac (fun hb=>?_) (fun hb=>?_)<;>(try(exfalso;omega)))|fail))
  all_goals (first|(exfalso;omega)|exact ret0 rfl (zcC rfl rfl) (.inl rfl)|exact ret0 rfl (zcC rfl rfl) (.inr rfl))
end Go.Proofs.YthiioppfnmcclaaGreat
namespace Go.Proofs.YthiioppfnmcclaaGreat
open Go.Wd Go.Ab
structure RdOk (b:List UInt8) (n a:Nat) (r:List Nat×Nat×Nat):Prop where
 len:r.1.length=n
 words:∀v∈r.1,v<B64
 le:a≤r.2.1
 fits:r.2.1≤b.length
theorem zkz (b:List UInt8):∀(n a:Nat),a≤b.length→(rdPl b n a).2.2=0→RdOk b n a (rdPl b n a)
 |0,a,ha,_=>⟨rfl,by simp[rdPl],Nat.le_refl _,ha⟩
 |n+1,a,ha,h=>by
  obtain⟨f1,f2,f3,f4⟩:=zfv b (a:Int)
  rw[rdPl]at h ⊢
  by_cases h1:(rdN b (a:Int)).2.2≠0
  ·rw[if_pos h1]at h;exact absurd h h1
  ·rw[if_neg h1]at h ⊢
   obtain⟨g1,g2,g3⟩:=f4 (by omega)
   by_cases h2:(rdPl b n (rdN b (a:Int)).2.1.toNat).2.2≠0
   ·rw[if_pos h2]at h;exact absurd h h2
   ·rw[if_neg h2]
    have ih:=zkz b n (rdN b (a:Int)).2.1.toNat (by omega) (by omega)
    have :=ih.le
    exact⟨by rw[List.length_cons,ih.len],fun v hv=>by
     rcases List.mem_cons.1 hv with rfl|hv
     ·exact f1
     ·exact ih.words v hv,by dsimp only;omega,ih.fits⟩
theorem zml {w:Nat} (h:w≤64):(2:Nat)^w≤B64:=by rw[show B64=2^64 by decide];exact Nat.pow_le_pow_right (by omega) h
theorem znK (b:List UInt8) (n a:Nat) (ha:a≤b.length) (h:(rdPk b n a).2.2=0):RdOk b n a (rdPk b n a):=by
 unfold rdPk at h ⊢
 by_cases h1:b.length≤a
 ·rw[if_pos h1]at h;cases h
 ·rw[if_neg h1]at h ⊢
  by_cases h2:64<(b.getD a 0).toNat
  ·rw[if_pos h2]at h;cases h
  ·rw[if_neg h2]at h ⊢
   by_cases h3:b.length-(a+1)<psz n (b.getD a 0).toNat
   ·rw[if_pos h3]at h;cases h
   ·rw[if_neg h3]at h ⊢
    by_cases h4:bN ((b.drop (a+1)).take (psz n (b.getD a 0).toNat))<2^((b.getD a 0).toNat*n)
    ·rw[if_pos h4]
     exact⟨zcH _ _ _,fun v hv=>Nat.lt_of_lt_of_le (znQ _ _ _ v hv) (zml (by omega)),by dsimp only;omega,by dsimp only;omega⟩
    ·rw[if_neg h4]at h;cases h
theorem zot (b:List UInt8) (n a:Nat) (ha:a<b.length) (h:(rdE b a n).2.2=0):RdOk b n (a+1) (rdE b a n):=by
 unfold rdE at h ⊢
 split at h
 ·rename_i h1;rw[if_pos h1];exact znK b n (a+1) ha h
 ·rename_i h1;rw[if_neg h1];exact zkz b n (a+1) ha h
theorem zi1 (b:List UInt8) (n a:Nat) (ha:a≤b.length):
  (a=b.length∧decN b a n=([],0,4))∨(a<b.length∧((1<(b.getD a 0).toNat∧decN b a n=([],0,5))∨((b.getD a 0).toNat≤1∧(((rdE b a n).2.2≠0∧decN b a n=([],0,(rdE b a n).2.2))∨((rdE b a n).2.2=0∧
   ((encN (rdE b a n).1=(b.drop a).take ((rdE b a n).2.1-a)∧decN b a n=rdE b a n)∨(encN (rdE b a n).1≠(b.drop a).take ((rdE b a n).2.1-a)∧decN b a n=([],0,5)))))))):=by
 unfold decN
 by_cases h1:a=b.length
 ·exact .inl ⟨h1,if_pos h1⟩
 ·refine .inr ⟨by omega,?_⟩
  rw[if_neg h1]
  by_cases h2:1<(b.getD a 0).toNat
  ·exact .inl ⟨h2,if_pos h2⟩
  ·refine .inr ⟨by omega,?_⟩
   rw[if_neg h2]
   by_cases h3:(rdE b a n).2.2≠0
   ·exact .inl ⟨h3,if_pos h3⟩
   ·refine .inr ⟨by omega,?_⟩
    rw[if_neg h3]
    by_cases h4:encN (rdE b a n).1=(b.drop a).take ((rdE b a n).2.1-a)
    ·exact .inl ⟨h4,if_pos h4⟩
    ·exact .inr ⟨h4,if_neg h4⟩
def behind (acc:List Nat) (r:List Nat×Nat×Nat):List Nat×Nat×Nat:=if r.2.2≠0 then([],0,r.2.2)else(acc++r.1,r.2.1,0)
theorem zhx (b:List UInt8) (n a:Nat) (acc:List Nat) (h:(rdN b (a:Int)).2.2=0):behind acc (rdPl b (n+1) a)=behind (acc++[(rdN b (a:Int)).1]) (rdPl b n (rdN b (a:Int)).2.1.toNat):=by
 have e:rdPl b (n+1) a=if(rdPl b n (rdN b (a:Int)).2.1.toNat).2.2≠0 then([],0,(rdPl b n (rdN b (a:Int)).2.1.toNat).2.2)else((rdN b (a:Int)).1::(rdPl b n (rdN b (a:Int)).2.1.toNat).1,(rdPl b n (rdN b (a:Int)).2.1.toNat).2.1,0):=by
  rw[rdPl,if_neg (fun hh=>hh h)]
 rw[e]
 by_cases h2:(rdPl b n (rdN b (a:Int)).2.1.toNat).2.2≠0
 ·rw[if_pos h2]
  unfold behind
  rw[if_pos h2,if_pos h2]
 ·rw[if_neg h2]
  unfold behind
  rw[if_neg h2,if_neg (by simp)]
  simp
theorem ziV (b:List UInt8) (n a:Nat) (acc:List Nat) (h:(rdN b (a:Int)).2.2≠0):behind acc (rdPl b (n+1) a)=([],0,(rdN b (a:Int)).2.2):=by
 rw[rdPl,if_pos h]
 exact if_pos h
theorem ziW (r:List Nat×Nat×Nat) (h:r.2.2≠0→r=([],0,r.2.2)):behind [] r=r:=by
 unfold behind
 by_cases h1:r.2.2≠0
 ·rw[if_pos h1];exact(h h1).symm
 ·rw[if_neg h1,List.nil_append]
  obtain⟨x,y,z⟩:=r
  dsimp only at h1 ⊢
  rw[show z=0 by omega]
theorem zl6 (b:List UInt8) (n a:Nat) (h:(rdPl b n a).2.2≠0):rdPl b n a=([],0,(rdPl b n a).2.2):=by
 cases n with
 |zero=>exact absurd rfl h
 |succ n=>
  rw[rdPl]at h ⊢
  by_cases h1:(rdN b (a:Int)).2.2≠0
  ·rw[if_pos h1]
  ·rw[if_neg h1]at h ⊢
   by_cases h2:(rdPl b n (rdN b (a:Int)).2.1.toNat).2.2≠0
   ·rw[if_pos h2]
   ·rw[if_neg h2]at h;exact absurd rfl h
end Go.Proofs.YthiioppfnmcclaaGreat
namespace Go.Proofs.YthiioppfnmcclaaGreat
open Go.RowKit Go.Ab Go.Wd
theorem zmq (l:List Nat) (i x:Nat):(wns l).set i [.v (.int .u64 (x:Int))]=wns (l.set i x):=by unfold wns;rw[List.map_set]
def upB (B w n i:Nat):List Nat:=unpk B w i++List.replicate (n-i) 0
def upR (B w n i d:Nat):List Nat:=(upB B w n i).set i (B/2^(w*i)%2^d)
theorem zgG {B w n i:Nat} (h:i≤n):(upB B w n i).length=n:=by unfold upB;rw[List.length_append,zcH,List.length_replicate];omega
theorem znV {B w n i d:Nat} (h:i≤n):(upR B w n i d).length=n:=by unfold upR;rw[List.length_set,zgG h]
theorem znU {B w n i d:Nat} (h:i<n):(upR B w n i d).getD i 0=B/2^(w*i)%2^d:=by
 unfold upR
 rw[List.getD_eq_getElem?_getD,List.getElem?_set_self (by rw[zgG (by omega)];exact h)];rfl
theorem znW (B w n i d e:Nat):(upR B w n i d).set i (B/2^(w*i)%2^e)=upR B w n i e:=by unfold upR;rw[List.set_set]
theorem zmo {B w n i:Nat} (h:i<n):upR B w n i 0=upB B w n i:=by
 unfold upR
 rw[Nat.pow_zero,Nat.mod_one]
 apply List.ext_getElem?
 intro j
 by_cases hj:i=j
 ·subst hj
  rw[List.getElem?_set_self (by rw[zgG (by omega)];exact h)]
  unfold upB
  rw[List.getElem?_append_right (by rw[zcH];omega),zcH,Nat.sub_self,List.getElem?_replicate,if_pos (by omega)]
 ·rw[List.getElem?_set_ne hj]
theorem zmn {B w n i:Nat} (h:i<n):upR B w n i w=upB B w n (i+1):=by
 unfold upR upB
 rw[zk1,List.append_assoc,show n-i=(n-(i+1))+1 by omega,List.replicate_succ,List.set_append_right _ _ (by rw[zcH];omega),zcH,Nat.sub_self]
 rfl
theorem zmk {b:List UInt8} {n w:Nat} (hb:b.length=psz n w) (h8:0<(w*n)%8):(w*n)/8<b.length∧(b.getD ((w*n)/8) 0).toNat/2^((w*n)%8)=bN b/2^(w*n):=by
 have h1:b.length=(w*n)/8+1:=by rw[hb];unfold psz;rw[Nat.mul_comm n w];omega
 refine⟨by omega,?_⟩
 rw[←zjB]
 conv =>rhs;rw[zgl (w*n),←Nat.div_div_eq_div_mul]
 rw[Nat.mod_eq_of_lt]
 rw[Nat.div_lt_iff_lt_mul (Nat.pow_pos (by omega)),Nat.mul_comm,←Nat.pow_succ,Nat.succ_eq_add_one,←h1]
 exact zmS b
theorem zkY {x:Nat} (h:x<18446744073709551616):IntKind.u64.wrap (x:Int)=x:=by rw[IntKind.wrap_u64];omega
theorem zho (k:Nat):(2:Int)^k=((2^k:Nat):Int):=by push_cast;rfl
def ucS (b:List UInt8) (w n i:Nat):St:=
 ⟨[(0,.r (.sl 1 (bys b))),(2,.r (.v (.int .i64 (w:Int)))),(8,.ow 0),(9,.r (.v (.int .i64 ((w*i:Nat):Int)))),(23,.r (.v (.int .i64 (n:Int)))),(24,.r (.v (.int .i64 (i:Int))))],[(0,some (.row 49 1 (wns (upB (bN b) w n i))))],1⟩
def udS (b:List UInt8) (w n i a d:Nat):St:=
 ⟨[(0,.r (.sl 1 (bys b))),(2,.r (.v (.int .i64 (w:Int)))),(8,.ow 0),(9,.r (.v (.int .i64 (a:Int)))),(10,.r (.v (.int .i64 (i:Int)))),(11,.r (.v (.int .i64 (d:Int)))),(23,.r (.v (.int .i64 (n:Int)))),(24,.r (.v (.int .i64 (i:Int))))],[(0,some (.row 49 1 (wns (upR (bN b) w n i d))))],1⟩
theorem zkZ (b:List UInt8) (n w:Nat) (hn:n≤65536) (hw:w≤64) (hb0:b.length=psz n w) (r:AV) (hr:(bN b<2^(w*n)∧r= .tu [.fr 49 1 (wns (unpk (bN b) w n)),.r (.v (.bool true))])∨(¬bN b<2^(w*n)∧r= .tu [.r (.v (.slice none 0 0)),.r (.v (.bool false))])):zam Tryz.prog 130 [.r (.sl 1 (bys b)),.r (.v (.int .i64 (n:Int))),.r (.v (.int .i64 (w:Int)))] [] r []:=by
 have cB:=zhz n w hn hw
 have hbl:=zas b
 have hsz:=zgo n w
 rw[hb0]at hbl
 have hnw:w*n≤64*65536:=Nat.mul_le_mul hw hn
 have hz:psz n w≤1000000:=by unfold psz;rw[Nat.mul_comm];omega
 have htop:=zmk (w:=w) (n:=n) hb0
 have hfull:(w*n)%8=0→bN b<2^(w*n):=fun h=>by
  have :=zmS b
  rw[p256,hb0]at this
  have e:8*psz n w=w*n:=by unfold psz;rw[Nat.mul_comm n w];omega
  rwa [e]at this
 have h00:List.replicate n (List.map RV.v [Value.int .u64 0])=wns (upB (bN b) w n 0):=by
  rw[show upB (bN b) w n 0=List.replicate n 0 by unfold upB unpk;rw[Nat.sub_zero];rfl]
  simp[wns]
 have hrl:(List.replicate n (List.map RV.v [Value.int .u64 0])).length=n:=by simp
 refine zaA Tryz.func130 rfl (Nat.le_of_ble_eq_true rfl) rfl rfl ?_
 (repeat' (first|refine zad ?_|(refine is_f 100 ?_;refine zag (cB) ?_)|(refine zac (fun hb=>?_) (fun hb=>?_)<;>(try(exfalso;omega)))|fail))
 all_goals (first|(exfalso;omega)|skip)
 clear cB
 refine zap (fun i=>ucS b w n i) (fun i=>i≤n) (fun i=>n-i) 0 (Nat.zero_le _) (by unfold ucS;rw[Nat.mul_zero];(refine Le.mk [] [] zaj zal zan zah)) fun i hi=>?_
 clear h00
 change awp _ _ _ _ _ (ucS b w n i)
 have hul:=zgG (B:=bN b) (w:=w) hi
 have hwl:=zbu (upB (bN b) w n i)
 rcases Nat.lt_or_ge i n with hi'|hi'
 ·have hn':=zaE i (by omega)
  have hwi:w*i+w≤w*n:=by rw[←Nat.mul_succ];exact Nat.mul_le_mul_left _ hi'
  have hpz:=zmo (B:=bN b) (w:=w) hi'
  have hpf:=zmn (B:=bN b) (w:=w) hi'
  unfold ucS
  rw[←hpz]
  (repeat' (first|refine zad ?_|(refine zac (fun hb=>?_) (fun hb=>?_)<;>(try(exfalso;omega)))|fail))
  all_goals (first|(exfalso;omega)|skip)
  refine zap (fun x:Nat×Nat=>udS b w n i x.1 x.2) (fun x=>x.2≤w∧x.1=w*i+x.2) (fun x=>w-x.2) (w*i,0) ⟨Nat.zero_le _,rfl⟩ (by(refine Le.mk [] [] zaj zal zan zah)) fun x hx=>?_
  obtain⟨a,d⟩:=x
  obtain⟨hd,ha⟩:=hx
  dsimp only at hd ha
  change awp _ _ _ _ _ (udS b w n i a d)
  have hll:=znV (B:=bN b) (w:=w) (d:=d) hi
  have hwl:=zbu (upR (bN b) w n i d)
  rcases Nat.lt_or_ge d w with hd'|hd'
  ·obtain⟨k,hk⟩:∃k,k=min (8-a%8) (w-d):=⟨_,rfl⟩
   have hq:a/8<psz n w:=by omega
   have hs8:a%8<8:=Nat.mod_lt _ (by omega)
   have hpart:=zlg (bN b) a k (by omega)
   rw[zjB]at hpart
   have hu:=znU (B:=bN b) (w:=w) (d:=d) hi'
   have hget:=zch (l:=upR (bN b) w n i d) (i:=i) (by omega)
   rw[hu]at hget
   have hmore:=zng (bN b/2^(w*i)) d k
   rw[Nat.div_div_eq_div_mul,←Nat.pow_add,←ha]at hmore
   have hset:=zmq (upR (bN b) w n i d) i (bN b/2^(w*i)%2^(d+k))
   rw[znW]at hset
   have hc256:=zjw (b.getD (a/8) 0)
   have hcs:(b.getD (a/8) 0).toNat/2^(a%8)<256:=Nat.lt_of_le_of_lt (Nat.div_le_self _ _) hc256
   have hk8:k≤8:=by omega
   have h2k:(2:Nat)^k≤2^8:=Nat.pow_le_pow_right (by omega) hk8
   have h2k0:0<(2:Nat)^k:=Nat.pow_pos (by omega)
   have hpl:bN b/2^a%2^k<2^k:=Nat.mod_lt _ h2k0
   have hpd:bN b/2^a%2^k*2^d<B64:=by
    have h1:(bN b/2^a%2^k+1)*2^d≤2^k*2^d:=Nat.mul_le_mul_right _ hpl
    rw[←Nat.pow_add,Nat.add_mul,Nat.one_mul]at h1
    have h2:(2:Nat)^(k+d)≤2^64:=Nat.pow_le_pow_right (by omega) (by omega)
    have h3:(2:Nat)^64=B64:=by decide
    have h4:0<(2:Nat)^d:=Nat.pow_pos (by omega)
    omega
   have huB:bN b/2^(w*i)%2^d<B64:=Nat.lt_of_lt_of_le (Nat.mod_lt _ (Nat.pow_pos (by omega))) (by rw[show B64=2^64 by decide];exact Nat.pow_le_pow_right (by omega) (by omega))
   have hshr:(((b.getD (a/8) 0).toNat:Nat):Int).fdiv (2^(min ((a%8:Nat):Int).toNat IntKind.u8.bits))=(((b.getD (a/8) 0).toNat/2^(a%8):Nat):Int):=by
    rw[Int.toNat_natCast,show min (a%8) IntKind.u8.bits=a%8 from Nat.min_eq_left (by show a%8≤8;omega),Int.fdiv_eq_ediv_of_nonneg _ (Int.le_of_lt (Int.pow_pos (by omega)))]
    push_cast
    rfl
   have hcv:IntKind.u64.wrap (((b.getD (a/8) 0).toNat/2^(a%8):Nat):Int)=(((b.getD (a/8) 0).toNat/2^(a%8):Nat):Int):=zkY (by omega)
   have hshl1:IntKind.u64.wrap (1*2^(min ((k:Nat):Int).toNat IntKind.u64.bits))=((2^k:Nat):Int):=by
    rw[Int.toNat_natCast,show min k IntKind.u64.bits=k from Nat.min_eq_left (by show k≤64;omega),Int.one_mul,zho]
    exact zkY (by omega)
   have hsub:IntKind.u64.wrap (((2^k:Nat):Int)-1)=((2^k-1:Nat):Int):=by rw[show((2^k:Nat):Int)-1=((2^k-1:Nat):Int) by omega];exact zkY (by omega)
   have hsub2:((2^k:Nat):Int)-1=((2^k-1:Nat):Int):=by omega
   have hand:bits .and .u64 (((b.getD (a/8) 0).toNat/2^(a%8):Nat):Int) ((2^k-1:Nat):Int)=((bN b/2^a%2^k:Nat):Int):=by
    rw[u64_and_nat _ _ (by omega) (by omega),Nat.and_two_pow_sub_one_eq_mod,hpart]
   have hshl2:IntKind.u64.wrap (((bN b/2^a%2^k:Nat):Int)*2^(min ((d:Nat):Int).toNat IntKind.u64.bits))=((bN b/2^a%2^k*2^d:Nat):Int):=by
    rw[Int.toNat_natCast,show min d IntKind.u64.bits=d from Nat.min_eq_left (by show d≤64;omega),show((bN b/2^a%2^k:Nat):Int)*2^d=((bN b/2^a%2^k*2^d:Nat):Int) by push_cast;rfl,IntKind.wrap_u64]
    unfold B64 at hpd
    omega
   have hor:bits .or .u64 ((bN b/2^(w*i)%2^d:Nat):Int) ((bN b/2^a%2^k*2^d:Nat):Int)=((bN b/2^(w*i)%2^(d+k):Nat):Int):=by
    rw[u64_or_nat _ _ huB hpd,hmore]
   have hrem:((a:Nat):Int).tmod 8=((a%8:Nat):Int):=by rw[Int.tmod_eq_emod_of_nonneg (by omega)];omega
   have hquo:IntKind.i64.wrap (((a:Nat):Int).tdiv 8)=((a/8:Nat):Int):=by rw[Int.tdiv_eq_ediv_of_nonneg (by omega),IntKind.wrap_i64];omega
   have hmin:(if((w:Nat):Int)-((d:Nat):Int)<8-((a%8:Nat):Int)then((w:Nat):Int)-((d:Nat):Int)else 8-((a%8:Nat):Int))=((k:Nat):Int):=by split <;>omega
   have hmin2:(if((w-d:Nat):Int)<8-((a%8:Nat):Int)then((w-d:Nat):Int)else 8-((a%8:Nat):Int))=((k:Nat):Int):=by split <;>omega
   have hinv:d+k≤w∧a+k=w*i+(d+k):=⟨by omega,by omega⟩
   have hdec:w-(d+k)<w-d:=by omega
   have ha8:a<8000000+1:=by omega
   clear hpart hmore hpd huB hpl hk ha hu hpz hpf htop hfull hc256 hcs h2k h2k0 hr
   generalize bN b/2^a%2^k*2^d=pd at *
   generalize bN b/2^a%2^k=pp at *
   generalize(b.getD (a/8) 0).toNat/2^(a%8)=cc at *
   generalize bN b/2^(w*i)%2^d=uu at *
   generalize bN b/2^(w*i)%2^(d+k)=u2 at *
   generalize 2^k-1=m1 at *
   generalize(2:Nat)^k=m2 at *
   (repeat' (first|refine zad ?_|(refine zac (fun hb=>?_) (fun hb=>?_)<;>(try(exfalso;omega)))|fail))
   all_goals (first|(exfalso;omega)|exact⟨(a+k,d+k),hinv,by show Le _ _ (udS b w n i (a+k) (d+k));(refine Le.mk [] [] zaj zal zan zah),hdec⟩)
  ·obtain rfl:d=w:=by omega
   unfold udS
   rw[hpf]
   rw[hpf]at hll hwl
   have ha2:d*(i+1)=a:=by rw[ha,Nat.mul_succ]
   clear hpz hpf htop hfull hr
   (repeat' (first|refine zad ?_|(refine zac (fun hb=>?_) (fun hb=>?_)<;>(try(exfalso;omega)))|fail))
   all_goals (first|(exfalso;omega)|exact⟨i+1,hi',by show Le _ _ (ucS b d n (i+1));unfold ucS;rw[ha2];(refine Le.mk [] [] zaj zal zan zah),by show n-(i+1)<n-i;omega⟩)
 ·obtain rfl:i=n:=by omega
  have hup:upB (bN b) w i i=unpk (bN b) w i:=by unfold upB;rw[Nat.sub_self,List.replicate_zero,List.append_nil]
  unfold ucS
  rw[hup]
  rw[hup]at hul hwl
  have hrem:((w*i:Nat):Int).tmod 8=((w*i%8:Nat):Int):=by rw[Int.tmod_eq_emod_of_nonneg (by omega)];omega
  have hquo:IntKind.i64.wrap (((w*i:Nat):Int).tdiv 8)=((w*i/8:Nat):Int):=by rw[Int.tdiv_eq_ediv_of_nonneg (by omega),IntKind.wrap_i64];omega
  rcases Nat.eq_zero_or_pos (w*i%8)with h8|h8
  ·rcases hr with⟨hlt,rfl⟩|⟨hge,rfl⟩
   ·rw[h8]at hrem
    clear hlt htop hfull hquo
    generalize w*i=m at *
    (repeat' (first|refine zad ?_|(refine zac (fun hb=>?_) (fun hb=>?_)<;>(try(exfalso;omega)))|fail))
    all_goals (first|(exfalso;omega)|exact ret2 [] (.fr 0 _ _ _ rfl) (.bool rfl) rfl rfl rfl rfl)
   ·exact absurd (hfull h8) hge
  ·obtain⟨t1,t2⟩:=htop h8
   have hs8:w*i%8<8:=Nat.mod_lt _ (by omega)
   have hshr:(((b.getD (w*i/8) 0).toNat:Nat):Int).fdiv (2^(min ((w*i%8:Nat):Int).toNat IntKind.u8.bits))=((bN b/2^(w*i):Nat):Int):=by
    rw[Int.toNat_natCast,show min (w*i%8) IntKind.u8.bits=w*i%8 from Nat.min_eq_left (by show w*i%8≤8;omega),Int.fdiv_eq_ediv_of_nonneg _ (Int.le_of_lt (Int.pow_pos (by omega))),←t2]
    push_cast
    rfl
   have hd0:bN b/2^(w*i)=0↔bN b<2^(w*i):=Nat.div_eq_zero_iff_lt (Nat.pow_pos (by omega))
   clear htop hfull t2
   rcases hr with⟨hlt,rfl⟩|⟨hge,rfl⟩
   ·rw[hd0.2 hlt]at hshr
    clear hlt hd0
    generalize w*i/8=q at *
    generalize w*i%8=t at *
    generalize w*i=m at *
    (repeat' (first|refine zad ?_|(refine zac (fun hb=>?_) (fun hb=>?_)<;>(try(exfalso;omega)))|fail))
    all_goals (first|(exfalso;omega)|exact ret2 [] (.fr 0 _ _ _ rfl) (.bool rfl) rfl rfl rfl rfl)
   ·have hne:bN b/2^(w*i)≠0:=fun h=>hge (hd0.1 h)
    clear hge hd0
    generalize bN b/2^(w*i)=z at *
    generalize w*i/8=q at *
    generalize w*i%8=t at *
    generalize w*i=m at *
    (repeat' (first|refine zad ?_|(refine zac (fun hb=>?_) (fun hb=>?_)<;>(try(exfalso;omega)))|fail))
    all_goals (first|(exfalso;omega)|exact ret2 [] (.r _) (.bool rfl) rfl rfl rfl rfl)
def NrR (r:List Nat×Nat×Nat) (x:AV):Prop:=
 (r.2.2=0∧x= .tu [.fr 49 1 (wns r.1),.r (.v (.int .i64 ((r.2.1:Nat):Int))),.r (.v (.int .i64 0))])∨(r.2.2≠0∧x= .tu [.r (.v (.slice none 0 0)),.r (.v (.int .i64 0)),.r (.v (.int .i64 ((r.2.2:Nat):Int)))])
def npS (b:List UInt8) (n a i:Nat) (acc:List Nat):St:=⟨[(0,.r (.sl 1 (bys b))),(1,.r (.v (.int .i64 (a:Int)))),(9,.ow 0),(20,.r (.v (.int .i64 (n:Int)))),(21,.r (.v (.int .i64 (i:Int))))],[(0,some (.row 49 1 (wns acc)))],1⟩
theorem zlJ (b:List UInt8) (n a:Nat) (hb:b.length≤140737488355328) (hn:n≤65536) (ha:a≤b.length) (x:AV) (hx:NrR (rdPl b n a) x):zam Tryz.prog 102 [.r (.sl 1 (bys b)),.r (.v (.int .i64 (a:Int))),.r (.v (.int .i64 (n:Int)))] [] x []:=by
 have hbl:=zas b
 have hmin:(if(((bys b).length-a:Nat):Int)<((n:Nat):Int)then(((bys b).length-a:Nat):Int)else((n:Nat):Int))=((min n (b.length-a):Nat):Int):=by split <;>omega
 have hmc:min n (b.length-a)≤65536:=by omega
 refine zaA Tryz.func102 rfl (Nat.le_of_ble_eq_true rfl) rfl rfl ?_
 obtain⟨c,hc⟩:∃c,c=min n (b.length-a):=⟨_,rfl⟩
 rw[←hc]at hmin hmc
 clear hc
 have h00:List.replicate 0 (List.map RV.v [Value.int .u64 0])=wns []:=rfl
 (repeat' (first|(refine zcp ?_;refine zak rfl (.inl ⟨rfl,rfl⟩) (zg4 (m:=0) (c:=c) rfl rfl (by omega)) rfl ?_)|refine zad ?_|(refine zac (fun hb=>?_) (fun hb=>?_)<;>(try(exfalso;omega)))|fail))
 all_goals (first|(exfalso;omega)|skip)
 clear hmin
 refine zap (fun y:Nat×Nat×List Nat=>npS b n y.1 y.2.1 y.2.2) (fun y=>y.2.1≤n∧y.1≤b.length∧y.2.2.length=y.2.1∧behind y.2.2 (rdPl b (n-y.2.1) y.1)=rdPl b n a) (fun y=>n-y.2.1) (a,0,[]) ⟨Nat.zero_le _,ha,rfl,ziW _ (fun h=>zl6 b n a h)⟩ (by(refine Le.mk [] [] zaj zal zan zah)) fun y hy=>?_
 obtain⟨a',i,acc⟩:=y
 obtain⟨hi,ha',hal,hr⟩:=hy
 dsimp only at hi ha' hal hr
 change awp _ _ _ _ _ (npS b n a' i acc)
 have hwl:=zbu acc
 clear h00
 rcases Nat.lt_or_ge i n with hi'|hi'
 ·have hn':=zaE i (by omega)
  rw[show n-i=(n-(i+1))+1 by omega]at hr
  have cR:=zb7 b (a':Int) (by omega) (by unfold I64;omega)
  obtain⟨f1,f2,f3,f4⟩:=zfv b (a':Int)
  by_cases he:(rdN b (a':Int)).2.2=0
  ·rw[zhx b _ a' acc he]at hr
   obtain⟨g1,g2,g3⟩:=f4 he
   rw[he]at cR
   obtain⟨a2,h2⟩:∃a2:Nat,(rdN b (a':Int)).2.1=(a2:Int):=⟨(rdN b (a':Int)).2.1.toNat,by omega⟩
   rw[h2]at hr cR g3
   rw[Int.toNat_natCast]at hr
   have hE:wns acc++[[.v (.int .u64 (((rdN b (a':Int)).1:Nat):Int))]]=wns (acc++[(rdN b (a':Int)).1]):=by unfold wns;simp
   have hinv:i+1≤n∧a2≤b.length∧(acc++[(rdN b (a':Int)).1]).length=i+1∧behind (acc++[(rdN b (a':Int)).1]) (rdPl b (n-(i+1)) a2)=rdPl b n a:=⟨hi',by omega,by rw[List.length_append,hal];rfl,hr⟩
   clear f1 f2 f3 f4 h2 hr he hx
   generalize(rdN b (a':Int)).1=v at *
   (repeat' (first|refine zad ?_|(refine is_f 65 ?_;refine zag (cR) ?_)|(refine zac (fun hb=>?_) (fun hb=>?_)<;>(try(exfalso;omega)))|fail))
   all_goals (first|(exfalso;omega)|exact⟨(a2,i+1,acc++[v]),hinv,by show Le _ _ (npS b n a2 (i+1) (acc++[v]));(refine Le.mk [(0,2)] [] zaj zal zan zah),by show n-(i+1)<n-i;omega⟩)
  ·rw[ziV b _ a' acc he]at hr
   rw[←hr]at hx
   clear f3 f4 hr
   generalize(rdN b (a':Int)).2.2=e at *
   rcases hx with⟨h0,_⟩|⟨_,rfl⟩
   ·exact absurd h0 he
   ·(repeat' (first|refine zad ?_|(refine is_f 65 ?_;refine zag (cR) ?_)|(refine zac (fun hb=>?_) (fun hb=>?_)<;>(try(exfalso;omega)))|fail))
    all_goals (first|(exfalso;omega)|exact ret3 [] (.r _) (.int rfl) (.int rfl) rfl rfl rfl rfl rfl)
 ·obtain rfl:i=n:=by omega
  rw[Nat.sub_self]at hr
  have hr2:rdPl b i a=(acc,a',0):=by rw[←hr];unfold behind;simp[rdPl]
  rw[hr2]at hx
  rcases hx with⟨_,rfl⟩|⟨h0,_⟩
  ·(repeat' (first|refine zad ?_|(refine zac (fun hb=>?_) (fun hb=>?_)<;>(try(exfalso;omega)))|fail))
   all_goals (first|(exfalso;omega)|exact ret3 [] (.fr 0 _ _ _ rfl) (.int rfl) (.int rfl) rfl rfl rfl rfl rfl)
  ·exact absurd rfl h0
theorem zkg (b:List UInt8) (n a:Nat) (hb:b.length≤140737488355328) (hn:n≤65536) (ha:a≤b.length) (x:AV) (hx:NrR (rdPk b n a) x):zam Tryz.prog 103 [.r (.sl 1 (bys b)),.r (.v (.int .i64 (a:Int))),.r (.v (.int .i64 (n:Int)))] [] x []:=by
 have hbl:=zas b
 refine zaA Tryz.func103 rfl (Nat.le_of_ble_eq_true rfl) rfl rfl ?_
 unfold rdPk at hx
 by_cases h1:b.length≤a
 ·rw[if_pos h1]at hx
  rcases hx with⟨h0,_⟩|⟨_,rfl⟩
  ·cases h0
  ·(repeat' (first|refine zad ?_|(refine zac (fun hb=>?_) (fun hb=>?_)<;>(try(exfalso;omega)))|fail))
   all_goals (first|(exfalso;omega)|exact ret3 [] (.r _) (.int rfl) (.int rfl) rfl rfl rfl rfl rfl)
 ·rw[if_neg h1]at hx
  have hget:=zbw (l:=b) (j:=a) (by omega)
  have hw256:=zjw (b.getD a 0)
  by_cases h2:64<(b.getD a 0).toNat
  ·rw[if_pos h2]at hx
   rcases hx with⟨h0,_⟩|⟨_,rfl⟩
   ·cases h0
   ·(repeat' (first|refine zad ?_|(refine zac (fun hb=>?_) (fun hb=>?_)<;>(try(exfalso;omega)))|fail))
    all_goals (first|(exfalso;omega)|exact ret3 [] (.r _) (.int rfl) (.int rfl) rfl rfl rfl rfl rfl)
  ·rw[if_neg h2]at hx
   have cB:=zhz n (b.getD a 0).toNat hn (by omega)
   have hcv:IntKind.i64.wrap (((b.getD a 0).toNat:Nat):Int)=(((b.getD a 0).toNat:Nat):Int):=by rw[IntKind.wrap_i64];omega
   have hinc:=zaE a (by omega)
   have hnw:n*(b.getD a 0).toNat≤65536*64:=Nat.mul_le_mul hn (by omega)
   have hz:psz n (b.getD a 0).toNat≤1000000:=by unfold psz;omega
   by_cases h3:b.length-(a+1)<psz n (b.getD a 0).toNat
   ·rw[if_pos h3]at hx
    rcases hx with⟨h0,_⟩|⟨_,rfl⟩
    ·cases h0
    ·clear hnw
     generalize psz n (b.getD a 0).toNat=z at *
     (repeat' (first|refine zad ?_|(refine is_f 100 ?_;refine zag (cB) ?_)|(refine zac (fun hb=>?_) (fun hb=>?_)<;>(try(exfalso;omega)))|fail))
     all_goals (first|(exfalso;omega)|exact ret3 [] (.r _) (.int rfl) (.int rfl) rfl rfl rfl rfl rfl)
   ·rw[if_neg h3]at hx
    have hcl:((b.drop (a+1)).take (psz n (b.getD a 0).toNat)).length=psz n (b.getD a 0).toNat:=by rw[List.length_take,List.length_drop];omega
    have cU:=fun r hr=>zkZ ((b.drop (a+1)).take (psz n (b.getD a 0).toNat)) n (b.getD a 0).toNat hn (by omega) hcl r hr
    have hsl:List.take (a+1+psz n (b.getD a 0).toNat-(a+1)) (List.drop (a+1) b)=(b.drop (a+1)).take (psz n (b.getD a 0).toNat):=by rw[Nat.add_sub_cancel_left]
    generalize(b.drop (a+1)).take (psz n (b.getD a 0).toNat)=C at *
    by_cases h4:bN C<2^((b.getD a 0).toNat*n)
    ·rw[if_pos h4]at hx
     have cU:=cU _ (.inl ⟨h4,rfl⟩)
     rcases hx with⟨_,rfl⟩|⟨h0,_⟩
     ·clear hnw h4 hcl
      generalize unpk (bN C) (b.getD a 0).toNat n=U at *
      generalize psz n (b.getD a 0).toNat=z at *
      rw[←hsl]at cU
      (repeat' (first|refine zad ?_|(refine is_f 100 ?_;refine zag (cB) ?_)|(refine is_f 130 ?_;refine zag (cU) ?_)|(refine zac (fun hb=>?_) (fun hb=>?_)<;>(try(exfalso;omega)))|fail))
      all_goals (first|(exfalso;omega)|exact ret3 [] (.fr 0 _ _ _ rfl) (.int rfl) (.int rfl) rfl rfl rfl rfl rfl)
     ·exact absurd rfl h0
    ·rw[if_neg h4]at hx
     have cU:=cU _ (.inr ⟨h4,rfl⟩)
     rcases hx with⟨h0,_⟩|⟨_,rfl⟩
     ·cases h0
     ·clear hnw h4 hcl
      generalize psz n (b.getD a 0).toNat=z at *
      rw[←hsl]at cU
      (repeat' (first|refine zad ?_|(refine is_f 100 ?_;refine zag (cB) ?_)|(refine is_f 130 ?_;refine zag (cU) ?_)|(refine zac (fun hb=>?_) (fun hb=>?_)<;>(try(exfalso;omega)))|fail))
      all_goals (first|(exfalso;omega)|exact ret3 [] (.r _) (.int rfl) (.int rfl) rfl rfl rfl rfl rfl)
end Go.Proofs.YthiioppfnmcclaaGreat
