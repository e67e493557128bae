/- Texts of the second layer in one: Tq3 Tq4. -/
import Derived.Test.YthiioppfnmcclaaGreatG10
import Derived.Test.YthiioppfnmcclaaGreatG3
import Derived.Test.YthiioppfnmcclaaGreatG4
import Derived.Test.YthiioppfnmcclaaGreatG5
set_option maxHeartbeats 2000000
set_option maxRecDepth 100000
set_option linter.unusedVariables false
set_option linter.unusedSimpArgs false
namespace Go.Proofs.YthiioppfnmcclaaGreat
open Go.RowKit Go.Ab
theorem zbi {S:St} {b:Blk} (h:getH S.H 0=some b) (hi:b.ids=[]):∀i c,(i,some c)∈zaM 0 [some b]→getH S.H i=some c∧c.ids=[]:=by
 intro i c hc
 simp only[zaM,List.mem_cons,List.not_mem_nil,or_false,Prod.mk.injEq,Option.some.injEq]at hc
 obtain⟨rfl,rfl⟩:=hc
 exact⟨h,hi⟩
theorem zfK (l:List Int) (k:Nat) (hl:Ints l) (hn:l.length≤140737488351232):zam Tryz.prog 35 [.pt 0 0,.r (.v (.int .i64 4))] [tb l k] (.r (.v (.bool (decide (nx l k 4=1))))) [some (tb l (adv l k))]:=by
 refine zaA Tryz.func35 rfl (Nat.le_of_ble_eq_true rfl) rfl rfl ?_
 (repeat' (first|refine zeS ?_|(refine is_f 13 ?_;refine zcE (zaS l k 4 hl hn (by omega)) ?_)|(refine zeW (fun hb=>?_) (fun hb=>?_)<;>(try(exfalso;omega)))|fail))
 all_goals exact zcL [] (.bool (by have e:Int.tmod 1 4=1:=by decide
                                   rw[e]at hb;simp[hb])) rfl rfl (zbi rfl rfl) rfl
def wds (l:List Int) (k:Nat):Nat→Int×Nat
 |0=>(0,k)
 |j+1=>(IntKind.u64.wrap (IntKind.u64.wrap ((wds l k j).1*2^min (Int.toNat 16) (IntKind.bits .u64))+nx l (wds l k j).2 65536),adv l (wds l k j).2)
theorem zf5 (l:List Int) (k:Nat) (hl:Ints l) (hn:l.length≤140737488351232):zam Tryz.prog 18 [.pt 0 0] [tb l k] (.r (.v (.int .u64 (wds l k 4).1))) [some (tb l (wds l k 4).2)]:=by
 refine zaA Tryz.func18 rfl (Nat.le_of_ble_eq_true rfl) rfl rfl ?_
 (repeat' (first|refine zeS ?_|(refine zeW (fun hb=>?_) (fun hb=>?_)<;>(try(exfalso;omega)))|fail))
 refine zap (fun j=>⟨[(0,.pt 0 0),(3,.r (.v (.int .u64 (wds l k j).1))),(4,.r (.v (.int .i64 (j:Int))))],[(0,some (tb l (wds l k j).2))],1⟩) (fun j=>j≤4) (fun j=>4-j) 0 (Nat.zero_le _) (by(refine Le.mk [] [] rfl ?_ ?_ zko<;>(repeat' (first|(first|exact zfS|refine zja ?_|refine le_r ?_ rfl rfl|refine zfR ?_ (by omega) rfl|refine zjb ?_ rfl rfl|refine zjc ?_ rfl rfl|refine zi9 ?_ rfl zev rfl rfl)|exact zdR|refine zdS ?_ rfl rfl|refine zed ?_ rfl rfl|refine zdT ?_ ?_ rfl|refine zcK ?_ rfl|refine zbo ?_ (by omega)|exact CfL.nil)))) fun j hj=>?_
 have hx:=zat l (wds l k j).2 (show(1:Int)≤65536 by omega)
 (repeat' (first|refine zeS ?_|(refine is_f 13 ?_;refine zcE (zaS l (wds l k j).2 65536 hl hn (by omega)) ?_)|(refine zeW (fun hb=>?_) (fun hb=>?_)<;>(try(exfalso;omega)))|fail))
 ·exact⟨j+1,by omega,by(refine Le.mk [] [] rfl ?_ ?_ zko<;>(repeat' (first|(first|exact zfS|refine zja ?_|refine le_r ?_ rfl rfl|refine zfR ?_ (by omega) rfl|refine zjb ?_ rfl rfl|refine zjc ?_ rfl rfl|refine zi9 ?_ rfl zev rfl rfl)|exact zdR|refine zdS ?_ rfl rfl|refine zed ?_ rfl rfl|refine zdT ?_ ?_ rfl|refine zcK ?_ rfl|refine zbo ?_ (by omega)|exact CfL.nil))),by omega⟩
 ·obtain rfl:j=4:=by omega
  exact zcL [] (.int rfl) rfl rfl (zbi rfl rfl) rfl
def itv (l:List Int) (k:Nat):Int×Nat:=
 if nx l k 8=0 then(IntKind.i64.wrap (wds l (adv l k) 4).1,(wds l (adv l k) 4).2)
 else if nx l k 8=1 then(9223372036854775807-nx l (adv l k) 4,adv l (adv l k))
 else if nx l k 8=2 then(-9223372036854775808+nx l (adv l k) 4,adv l (adv l k))
 else if nx l k 8=3 then(IntKind.i64.wrap ((wds l (adv l k) 4).1.fdiv (2^min (nx l (wds l (adv l k) 4).2 64).toNat (IntKind.bits .u64))),adv l (wds l (adv l k) 4).2)
 else(nx l (adv l k) 2000-1000,adv l (adv l k))
theorem zj6 (l:List Int) (k:Nat) (hl:Ints l) (hn:l.length≤140737488351232):zam Tryz.prog 17 [.pt 0 0] [tb l k] (.r (.v (.int .i64 (itv l k).1))) [some (tb l (itv l k).2)]:=by
 refine zaA Tryz.func17 rfl (Nat.le_of_ble_eq_true rfl) rfl rfl ?_
 have h8:=zat l k (show(1:Int)≤8 by omega)
 have h4:=zat l (adv l k) (show(1:Int)≤4 by omega)
 have h2000:=zat l (adv l k) (show(1:Int)≤2000 by omega)
 have h64:=zat l (wds l (adv l k) 4).2 (show(1:Int)≤64 by omega)
 (repeat' (first|refine zeS ?_|(refine is_f 13 ?_;refine zcE (zaS l k 8 hl hn (by omega)) ?_)|(refine is_f 13 ?_;refine zcE (zaS l (adv l k) 4 hl hn (by omega)) ?_)|(refine is_f 13 ?_;refine zcE (zaS l (adv l k) 2000 hl hn (by omega)) ?_)|(refine is_f 13 ?_;refine zcE (zaS l (wds l (adv l k) 4).2 64 hl hn (by omega)) ?_)|(refine is_f 18 ?_;refine zcE (zf5 l (adv l k) hl hn) ?_)|(refine zeW (fun hb=>?_) (fun hb=>?_)<;>(try(exfalso;omega)))|fail))
 all_goals (unfold itv;(repeat' split)<;>(try(exfalso;omega))<;>exact zcL [] (.int rfl) rfl rfl (zbi rfl rfl) rfl)
def smps (l:List (Int×Int)):List (List RV):=l.map fun s=>[.v (.int .i64 s.1),.v (.int .i64 s.2)]
theorem zbQ (l:List (Int×Int)):(smps l).length=l.length:=by simp[smps]
theorem zdu {l:List (Int×Int)} {j:Nat} (h:j<l.length):(smps l)[j]? =some [.v (.int .i64 (l.getD j (0,0)).1),.v (.int .i64 (l.getD j (0,0)).2)]:=by simp[smps,h]
theorem za6 (a b:List (Int×Int)):smps (a++b)=smps a++smps b:=by simp[smps]
def rng (l:List (Int×Int)) (a b:Int):List (Int×Int):=l.filter fun s=>decide (a≤s.1∧s.1≤b)
end Go.Proofs.YthiioppfnmcclaaGreat
