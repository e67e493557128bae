/- Texts of the second layer in one: Base Ty Tq1 Cm2 Own Vc2. -/
import Derived.Test.YthiioppfnmcclaaGreatProg
import Derived.WalkKit
import Derived.WalkSpells
import Derived.WalkLawsBesides
import Derived.Laws.BitsAllLaws
import Derived.Laws.Rows
import Derived.Laws.OwnMore
import Derived.Lib.Hide
import Derived.KernelRfl
import Derived.Below
import Derived.Deep.AppendLies
import Derived.Deep.Draws
import Derived.Test.YthiioppfnmcclaaGreatG3
import Derived.Test.YthiioppfnmcclaaGreatG5
import Derived.Maps.AppendAt
import Derived.OwnWalk
import Derived.BigQuiet
import Derived.Deep.RegionWith
import Derived.WalkSmall
import Derived.Lib.SlBytesConst
import Derived.Test.YthiioppfnmcclaaGreatG4
import Derived.Lib.AppendZeros
import Derived.Deep.DeepAppendWide
set_option maxHeartbeats 1000000
set_option maxRecDepth 100000
set_option linter.unusedVariables false
set_option linter.unusedSimpArgs false
namespace Go.Proofs.YthiioppfnmcclaaGreat
open Go.RowKit
def bv (l:List UInt8):List Value:=l.map fun b=>.int .u8 (b.toNat:Int)
theorem zgQ (l:List UInt8):(bv l).length=l.length:=by simp[bv]
theorem zoa (l:List UInt8) (k:Nat) (h:k<l.length):(bv l)[k]? =some (.int .u8 ((l[k]'h).toNat:Int)):=by simp[bv,h]
theorem zjG (a b:List UInt8):bv (a++b)=bv a++bv b:=by simp[bv]
theorem zjH (a:List UInt8) (k:Nat):bv (a.take k)=(bv a).take k:=by simp[bv,List.map_take]
theorem zmW (a:List UInt8) (k:Nat):bv (a.drop k)=(bv a).drop k:=by simp[bv,List.map_drop]
def Rd (w:World) (size:Nat) (A:Option Addr) (n:Nat) (vs:List Value):Prop:=
 vs.length=n*size∧(0<n→∃ad,A=some ad∧∀j u,vs[j]? =some u→w.cell? (ad.add j)=some u)
theorem add_add (a:Addr) (i j:Nat):(a.add i).add j=a.add (i+j):=by
 unfold Addr.add
 by_cases hi:i=0<;>by_cases hj:j=0<;>simp[hi,hj,Nat.add_assoc]
theorem add_block (a:Addr) (n:Nat):(a.add n).block=a.block:=by unfold Addr.add;split <;>rfl
section
variable {w w':World} {size n:Nat} {A:Option Addr} {vs:List Value}
theorem Rd.nil:Rd w size A 0 []:=⟨by simp,fun h=>absurd h (by omega)⟩
theorem Rd.keep (h:Rd w size A n vs) (hk:∀p:Addr,p.block<w.heap.size→w'.cell? p=w.cell? p):Rd w' size A n vs:=
 ⟨h.1,fun hn=>by
  obtain⟨ad,e,hc⟩:=h.2 hn
  exact⟨ad,e,fun j u hu=>(hk _ (block_lt_of_cell (hc j u hu))).trans (hc j u hu)⟩⟩
theorem Rd.below (h:Rd w size A n vs) (hb:Below w.heap.size w w'):Rd w' size A n vs:=h.keep fun _ hp=>hb.cell hp
theorem Rd.drew (h:Rd w size A n vs):Rd w.drew size A n vs:=h
theorem Rd.alloc (h:Rd w size A n vs) (o:Obj):Rd (w.alloc o) size A n vs:=h.keep fun p hp=>World.cell?_alloc_lt w o p hp
theorem Rd.lt (h:Rd w 1 A n vs) (hn:0<n) (ad:Addr) (e:A=some ad):ad.block<w.heap.size:=by
 obtain⟨ad',e',hc⟩:=h.2 hn
 rw[e]at e'
 injection e' with e'
 subst e'
 have hl:0<vs.length:=by have :=h.1;omega
 have h1:=block_lt_of_cell (hc 0 _ (List.getElem?_eq_getElem hl))
 rwa [add_block]at h1
theorem Rd.at_ {k:Nat} (h:Rd w 1 A n vs) (hk:k<n):∃ad u,A=some ad∧vs[k]? =some u∧w.cell? (ad.add k)=some u:=by
 obtain⟨ad,e,hc⟩:=h.2 (by omega)
 have hl:k<vs.length:=by have :=h.1;omega
 exact⟨ad,vs[k],e,List.getElem?_eq_getElem hl,hc k _ (List.getElem?_eq_getElem hl)⟩
theorem Rd.byte {l:List UInt8} {k:Nat} (h:Rd w 1 A n (bv l)) (hk:k<n):∃ad,∃hl:k<l.length,A=some ad∧w.cell? (ad.add k)=some (.int .u8 ((l[k]'hl).toNat:Int)):=by
 have hl:k<l.length:=by have :=h.1;rw[zgQ]at this;omega
 obtain⟨ad,u,e,hu,hc⟩:=h.at_ hk
 rw[zoa l k hl]at hu
 injection hu with hu
 exact⟨ad,hl,e,by rw[hc,←hu]⟩
theorem Rd.len {l:List UInt8} (h:Rd w 1 A n (bv l)):n=l.length:=by have :=h.1;rw[zgQ]at this;omega
theorem Rd.mid {l:List UInt8} (h:Rd w 1 A n (bv l)) (k m:Nat) (hk:k≤m) (hm:m≤n):Rd w 1 (Option.map (fun x=>x.add k) A) (m-k) (bv ((l.drop k).take (m-k))):=by
 have hl:=h.len
 refine⟨by rw[zgQ,List.length_take,List.length_drop];omega,fun hn=>?_⟩
 obtain⟨ad,rfl,hcell⟩:=h.2 (by omega)
 refine⟨ad.add k,rfl,fun j u hu=>?_⟩
 rw[add_add]
 refine hcell _ u ?_
 rw[zjH,List.getElem?_take]at hu
 split at hu
 ·rwa [zmW,List.getElem?_drop]at hu
 ·cases hu
theorem Rd.pre {l:List UInt8} (h:Rd w 1 A n (bv l)) (m:Nat) (hm:m≤n):Rd w 1 A m (bv (l.take m)):=by
 have hl:=h.len
 refine⟨by rw[zgQ,List.length_take];omega,fun hn=>?_⟩
 obtain⟨ad,rfl,hcell⟩:=h.2 (by omega)
 refine⟨ad,rfl,fun j u hu=>?_⟩
 refine hcell _ u ?_
 rw[zjH,List.getElem?_take]at hu
 split at hu
 ·exact hu
 ·cases hu
theorem Rd.of_own {base:Nat} {e:TypeId} {c:Nat} (h:w.ownsRow base e size (.slice A n c) n vs):Rd w size A n vs:=by
 refine⟨h.1,fun hn=>?_⟩
 obtain⟨g,cap,hv,_,_⟩:=h.form hn
 have hA:A=some ⟨g,0,none⟩:=by injection hv
 subst hA
 exact⟨_,rfl,h.cells (g:=g) rfl⟩
end
def IsRow (k:IntKind) (w:World) (a:Option Addr) (len cap:Nat) (zs:List Int):Prop:=
 (a=none∧len=0∧cap=0∧zs=[])∨
 ∃x,a=some x∧len≤cap∧cap≤maxLen∧zs.length=cap∧(∀i,i<zs.length→w.cell? (x.add i)=some (.int k (zs.getD i 0)))∧∀n∈zs,(Lit.int k n).wf=true
theorem ziP {k:IntKind} {x:Int} (h:(Lit.int k x).wf=true):k.min≤x∧x≤k.max:=by
 simpa[Lit.wf]using h
theorem wf_u8 {x:Int} (h:(Lit.int .u8 x).wf=true):0≤x∧x<256:=by
 have :=ziP h
 simp[IntKind.min,IntKind.max,IntKind.signed,IntKind.bits]at this
 omega
theorem wf_i64 {x:Int} (h:(Lit.int .i64 x).wf=true): -9223372036854775808≤x∧x<9223372036854775808:=by
 have :=ziP h
 simp[IntKind.min,IntKind.max,IntKind.signed,IntKind.bits]at this
 omega
theorem IsRow.vals {k:IntKind} {w:World} {a:Option Addr} {len cap:Nat} {zs:List Int} (h:IsRow k w a len cap zs):
  len≤cap∧(zs.take len).length=len∧(∀x∈zs.take len,(Lit.int k x).wf=true)∧Rd w 1 a len ((zs.take len).map (Value.int k)):=by
 rcases h with⟨rfl,rfl,rfl,rfl⟩|⟨x,rfl,h1,h2,h3,h4,h5⟩
 ·exact⟨Nat.le_refl _,rfl,by simp,Rd.nil⟩
 ·refine⟨h1,by rw[List.length_take];omega,fun y hy=>h5 y (List.mem_of_mem_take hy),by rw[List.length_map,List.length_take];omega,fun _=>⟨x,rfl,fun j u hu=>?_⟩⟩
  rw[List.getElem?_map,List.getElem?_take]at hu
  split at hu
  ·have hj:j<zs.length:=by omega
   rw[h4 j hj]
   simp[hj]at hu
   rw[←hu]
   simp[List.getD,hj]
  ·cases hu
theorem IsRow.bytes {w:World} {a:Option Addr} {len cap:Nat} {zs:List Int} (h:IsRow .u8 w a len cap zs):
  ∃l:List UInt8,l.length=len∧len≤cap∧Rd w 1 a len (bv l):=by
 obtain⟨h1,h2,h3,h4⟩:=h.vals
 refine⟨(zs.take len).map fun x=>UInt8.ofNat x.toNat,by rw[List.length_map,h2],h1,?_⟩
 have :bv ((zs.take len).map fun x=>UInt8.ofNat x.toNat)=(zs.take len).map (Value.int .u8):=by
  rw[bv,List.map_map]
  apply List.map_congr_left
  intro x hx
  have hw:=wf_u8 (h3 x hx)
  have :(((UInt8.ofNat x.toNat).toNat:Nat):Int)=x:=by
   rw[UInt8.toNat_ofNat']
   omega
  simp only[Function.comp,this]
 rw[this]
 exact h4
end Go.Proofs.YthiioppfnmcclaaGreat
namespace Go.Proofs.YthiioppfnmcclaaGreat
open Go.RowKit Go.Ab
instance ti_0:OnT Tryz.prog 2:=⟨by kernel_rfl⟩
instance ti_1:ItT Tryz.prog 2 .i64:=⟨by kernel_rfl⟩
instance ti_2:ZrT Tryz.prog 2 [.int .i64 0]:=⟨by kernel_rfl,by kernel_rfl⟩
instance ti_3:OnT Tryz.prog 3:=⟨by kernel_rfl⟩
instance ti_4:ItT Tryz.prog 3 .i64:=⟨by kernel_rfl⟩
instance ti_5:ZrT Tryz.prog 3 [.int .i64 0]:=⟨by kernel_rfl,by kernel_rfl⟩
instance ti_8:OnT Tryz.prog 5:=⟨by kernel_rfl⟩
instance ti_9:ItT Tryz.prog 5 .u8:=⟨by kernel_rfl⟩
instance zpL:ZrT Tryz.prog 5 [.int .u8 0]:=⟨by kernel_rfl,by kernel_rfl⟩
instance zpM:SlT Tryz.prog 22 3 1 8:=⟨by kernel_rfl⟩
instance zpN:OnT Tryz.prog 22:=⟨by kernel_rfl⟩
instance zpO:SlT Tryz.prog 25 48 2 16:=⟨by kernel_rfl⟩
instance zpP:SlT Tryz.prog 28 5 1 1:=⟨by kernel_rfl⟩
instance zpQ:AgT Tryz.prog 40 5:=⟨by kernel_rfl⟩
instance zpR:FdT Tryz.prog 40 0 0 3:=⟨by kernel_rfl,by kernel_rfl⟩
instance zpS:FdT Tryz.prog 40 1 1 2:=⟨by kernel_rfl,by kernel_rfl⟩
instance zpT:FdT Tryz.prog 40 2 2 3:=⟨by kernel_rfl,by kernel_rfl⟩
instance zpU:FdT Tryz.prog 40 3 3 2:=⟨by kernel_rfl,by kernel_rfl⟩
instance zpV:FdT Tryz.prog 40 4 4 2:=⟨by kernel_rfl,by kernel_rfl⟩
instance zpW:ZrT Tryz.prog 40 [.int .i64 0,.int .i64 0,.int .i64 0,.int .i64 0,.int .i64 0]:=⟨by kernel_rfl,by kernel_rfl⟩
instance zo8:FdT Tryz.prog 46 0 0 22:=⟨by kernel_rfl,by kernel_rfl⟩
instance zo9:FdT Tryz.prog 46 1 1 3:=⟨by kernel_rfl,by kernel_rfl⟩
instance zpa:AgT Tryz.prog 48 2:=⟨by kernel_rfl⟩
instance zpb:FdT Tryz.prog 48 0 0 2:=⟨by kernel_rfl,by kernel_rfl⟩
instance zpc:FdT Tryz.prog 48 1 1 2:=⟨by kernel_rfl,by kernel_rfl⟩
instance zpd:PlT Tryz.prog 48 [(0,1),(1,1)]:=⟨by kernel_rfl⟩
instance zpe:ZrT Tryz.prog 48 [.int .i64 0,.int .i64 0]:=⟨by kernel_rfl,by kernel_rfl⟩
instance zpf:OnT Tryz.prog 49:=⟨by kernel_rfl⟩
instance zpg:ItT Tryz.prog 49 .u64:=⟨by kernel_rfl⟩
instance zph:ZrT Tryz.prog 49 [.int .u64 0]:=⟨by kernel_rfl,by kernel_rfl⟩
instance zpi:ItT Tryz.prog 51 .u64:=⟨by kernel_rfl⟩
instance zpj:SlT Tryz.prog 60 2 1 8:=⟨by kernel_rfl⟩
instance zpk:PlT Tryz.prog 71 []:=⟨by kernel_rfl⟩
instance zpl:PlT Tryz.prog 75 [(0,0)]:=⟨by kernel_rfl⟩
instance zpm:SlT Tryz.prog 81 49 1 8:=⟨by kernel_rfl⟩
instance zpn:SlT Tryz.prog 98 153 2 16:=⟨by kernel_rfl⟩
instance zpo:OnT Tryz.prog 98:=⟨by kernel_rfl⟩
instance zpp:ZrT Tryz.prog 98 [.slice none 0 0]:=⟨by kernel_rfl,by kernel_rfl⟩
instance zpq:OnT Tryz.prog 115:=⟨by kernel_rfl⟩
instance zpr:SlT Tryz.prog 116 115 1 8:=⟨by kernel_rfl⟩
instance zps:AgT Tryz.prog 144 4:=⟨by kernel_rfl⟩
instance zpt:FdT Tryz.prog 144 0 0 2:=⟨by kernel_rfl,by kernel_rfl⟩
instance zpu:FdT Tryz.prog 144 1 1 3:=⟨by kernel_rfl,by kernel_rfl⟩
instance zpv:FdT Tryz.prog 144 2 2 2:=⟨by kernel_rfl,by kernel_rfl⟩
instance zpw:FdT Tryz.prog 144 3 3 2:=⟨by kernel_rfl,by kernel_rfl⟩
instance zpx:PlT Tryz.prog 144 [(0,1),(1,1),(2,1),(3,1)]:=⟨by kernel_rfl⟩
instance zpy:ZrT Tryz.prog 144 [.int .i64 0,.int .i64 0,.int .i64 0,.int .i64 0]:=⟨by kernel_rfl,by kernel_rfl⟩
instance zpz:AgT Tryz.prog 153 2:=⟨by kernel_rfl⟩
instance zpA:FdT Tryz.prog 153 0 0 3:=⟨by kernel_rfl,by kernel_rfl⟩
instance zpB:FdT Tryz.prog 153 1 1 2:=⟨by kernel_rfl,by kernel_rfl⟩
instance zpC:PlT Tryz.prog 153 [(0,1),(1,1)]:=⟨by kernel_rfl⟩
instance zpD:ZrT Tryz.prog 153 [.int .i64 0,.int .i64 0]:=⟨by kernel_rfl,by kernel_rfl⟩
instance zpE:AgT Tryz.prog 320 2:=⟨by kernel_rfl⟩
instance zpF:FdT Tryz.prog 320 0 0 317:=⟨by kernel_rfl,by kernel_rfl⟩
instance zpG:FdT Tryz.prog 320 1 1 318:=⟨by kernel_rfl,by kernel_rfl⟩
instance zpH:PlT Tryz.prog 320 [(0,1),(1,1)]:=⟨by kernel_rfl⟩
def modz (a n:Int):Int:=if n<1 then 0 else a%n
theorem zje (a:Int) {n:Int} (h:1≤n):0≤modz a n∧modz a n<n:=by
 unfold modz
 rw[if_neg (by omega)]
 exact⟨Int.emod_nonneg _ (by omega),Int.emod_lt_of_pos _ (by omega)⟩
def Ints (l:List Int):Prop:=∀x∈l,-9223372036854775808≤x∧x<9223372036854775808
def nx (l:List Int) (k:Nat) (m:Int):Int:=modz (l.getD k 0) m
def adv (l:List Int) (k:Nat):Nat:=if k<l.length then k+1 else k
theorem zat (l:List Int) (k:Nat) {m:Int} (h:1≤m):0≤nx l k m∧nx l k m<m:=zje _ h
abbrev tb (l:List Int) (k:Nat):Blk:=.var 46 [.r (.sl 1 (nums .i64 l)),.r (.v (.int .i64 (k:Int)))]
theorem zoT (a n:Int) (ha: -9223372036854775808≤a∧a<9223372036854775808) (hn: -9223372036854775808≤n∧n<9223372036854775808):zam Tryz.prog 33 [.r (.v (.int .i64 a)),.r (.v (.int .i64 n))] [] (.r (.v (.int .i64 (modz a n)))) []:=by
 refine zaA Tryz.func33 rfl (Nat.le_of_ble_eq_true rfl) rfl rfl ?_
 have h0:n<1→(0:Int)=modz a n:=fun h=>by unfold modz;rw[if_pos h]
 have h1:1≤n→(a.tmod n<0→IntKind.i64.wrap (a.tmod n+n)=modz a n)∧(¬a.tmod n<0→a.tmod n=modz a n):=fun h=>by
  have hmz:modz a n=a%n:=by unfold modz;rw[if_neg (by omega)]
  rw[hmz]
  have e1:=Int.emod_nonneg a (show n≠0 by omega)
  have e2:=Int.emod_lt_of_pos a (show 0<n by omega)
  have e3:=Int.tmod_eq_emod (a:=a) (b:=n)
  refine⟨fun hl=>?_,fun hl=>?_⟩
  ·rw[IntKind.wrap_i64]
   split at e3
   ·omega
   ·have :=Int.natAbs_of_nonneg (show 0≤n by omega)
    omega
  ·split at e3
   ·omega
   ·have :=Int.natAbs_of_nonneg (show 0≤n by omega)
    omega
 (repeat' (first|refine zeU ?_|(refine zac (fun hb=>?_) (fun hb=>?_)<;>(try(exfalso;omega)))|fail))
 all_goals (first|(exfalso;omega)|exact ret1 [] (.int (h0 (by omega))) rfl rfl rfl|exact ret1 [] (.int ((h1 (by omega)).1 (by assumption))) rfl rfl rfl|exact ret1 [] (.int ((h1 (by omega)).2 (by assumption))) rfl rfl rfl)
theorem zcQ {S:St} {b:Blk} (h:getH S.H 0=some b) (hi:b.ids=[]):∀i c,(i,some c)∈zaM 0 [some b]→getH S.H i=some c∧c.ids=[]:=by
 intro i c hc
 simp only[zaM,List.mem_cons,List.not_mem_nil,or_false,Prod.mk.injEq,Option.some.injEq]at hc
 obtain⟨rfl,rfl⟩:=hc
 exact⟨h,hi⟩
theorem zaS (l:List Int) (k:Nat) (m:Int) (hl:Ints l) (hn:l.length≤140737488351232) (hm: -9223372036854775808≤m∧m<9223372036854775808):zam Tryz.prog 13 [.pt 0 0,.r (.v (.int .i64 m))] [tb l k] (.r (.v (.int .i64 (nx l k m)))) [some (tb l (adv l k))]:=by
 refine zaA Tryz.func13 rfl (Nat.le_of_ble_eq_true rfl) rfl rfl ?_
 have hll:=zao .i64 l
 rcases Nat.lt_or_ge k l.length with hk|hk
 ·have hw1:IntKind.i64.wrap ((k:Int)+1)=((k+1:Nat):Int):=by rw[IntKind.wrap_i64];omega
  have hw2:IntKind.i64.wrap (((k+1:Nat):Int)-1)=(k:Int):=by rw[IntKind.wrap_i64];omega
  have hg:=zbP (k:=.i64) hk
  have hx: -9223372036854775808≤l.getD k 0∧l.getD k 0<9223372036854775808:=by
   have :l.getD k 0=l[k]:=by simp[hk]
   rw[this];exact hl _ (List.getElem_mem hk)
  have ha:adv l k=k+1:=by unfold adv;rw[if_pos hk]
  have hn:nx l k m=modz (l.getD k 0) m:=rfl
  rw[ha,hn]
  (repeat' (first|refine zeU ?_|(refine is_f 33 ?_;refine zd1 (zoT (l.getD k 0) m hx hm) ?_)|(refine zac (fun hb=>?_) (fun hb=>?_)<;>(try(exfalso;omega)))|fail))
  all_goals (first|(exfalso;omega)|exact zcL [] (.int rfl) rfl rfl (zcQ rfl rfl) rfl)
 ·have ha:adv l k=k:=by unfold adv;rw[if_neg (by omega)]
  have hz:(0:Int)=nx l k m:=by
   unfold nx modz
   have :l.getD k 0=0:=by simp[hk]
   rw[this];split <;>simp
  rw[ha,←hz]
  (repeat' (first|refine zeU ?_|(refine zac (fun hb=>?_) (fun hb=>?_)<;>(try(exfalso;omega)))|fail))
  all_goals (first|(exfalso;omega)|exact zcL [] (.int rfl) rfl rfl (zcQ rfl rfl) rfl)
theorem znf (A:Option Addr) (n c:Nat) (w:World):Calls Tryz.prog 5 #[.slice A n c] w fun e w'=>e= .returned (.pointer (some ⟨w.heap.size,0,none⟩))∧w'.heap[w.heap.size]? =some (.cells #[.slice A n c,.int .i64 ((0:Nat):Int)] 46 (0,0))∧Below w.heap.size w w':=by
 go_enter Tryz.func5,Tryz.ntmps5
 go_wp2
 go_ret
 exact⟨rfl,heap_alloc_new _ _,(Below.refl _ _).alloc (Nat.le_refl _) _⟩
theorem zoU (l:List Int):zn3 Tryz.prog 5 [.r (.sl 1 (nums .i64 l))] 46 [.sl 1 (nums .i64 l),.v (.int .i64 ((0:Nat):Int))]:=by
 intro w Z M us hM hargs
 simp only[AV.reps,AV.rep]at hargs
 obtain⟨u,us',rfl,h1,rfl⟩:=hargs
 have h1':=h1
 rw[RV.rep]at h1
 obtain⟨A,c,rfl,_⟩:=h1
 refine(znf A _ c w).mono fun e w' ⟨he,ha,hb⟩=>⟨_,_,he,Nat.le_refl _,ha,?_,hb⟩
 exact .cons rfl (RV.rep_mono (Go.Ab.Upto.of_below hb) (fun q hq hq'=>hq'.resolve_right (by omega)) _ _ h1') (.cons rfl (by rw[RV.rep]) .nil)
def iv (l:List Int):List Value:=l.map (Value.int .i64)
theorem zom (l:List Int):(iv l).length=l.length:=by simp[iv]
theorem zol (l:List Int) (k:Nat) (h:k<l.length):(iv l)[k]? =some (.int .i64 (l[k]'h)):=by simp[iv,h]
theorem IsRow.ints {w:World} {a:Option Addr} {len cap:Nat} {zs:List Int} (h:IsRow .i64 w a len cap zs):
  ∃l:List Int,l.length=len∧len≤cap∧Ints l∧Rd w 1 a len (iv l):=by
 obtain⟨h1,h2,h3,h4⟩:=h.vals
 exact⟨zs.take len,h2,h1,fun x hx=>wf_i64 (h3 x hx),h4⟩
theorem zlp {P:Program} {f:FuncId} {args:List AV} {us:List Value} {x:Value} {w:World} (h:zam P f args [] (.r (.v x)) []) (hr:AV.reps (fun _=>undef) (fun _=>False) w args us):Calls P f us.toArray w fun e w'=>e= .returned x∧Below w.heap.size w w':=by
 refine(h w (fun _=>undef) (fun _=>False) 0 us (fun x h=>h.elim) (Nat.zero_le _) hr (fun i b h=>by simp[numd]at h) (fun i j b c h=>by simp[numd]at h)).mono fun e w' ⟨v,he,Z',A⟩=>?_
 have h1:=A.out
 simp only[zaq,AV.unfr,AV.rep,RV.rep]at h1
 subst h1
 refine⟨he,Go.Ab.Upto.to_below (A.upto.mono fun q _ h=>?_)⟩
 obtain⟨i,o,hi,_⟩:=h
 simp[zaq,zaM]at hi
theorem zjP (B:Nat→Prop) (w:World):∀l:List Int,RVs B w (nums .i64 l).flatten (iv l)
 |[]=>.nil
 |x::l=>by
  rw[nums,List.map_cons,List.flatten_cons,iv,List.map_cons]
  exact .cons rfl (by rw[RV.rep]) (zjP B w l)
theorem zoc {B:Nat→Prop} {w:World} {A:Option Addr} {n c:Nat} {l:List Int} (h:Rd w 1 A n (iv l)) (hn:n≤c) (hc:c≤maxLen) (hB:∀q,q<w.heap.size→¬B q):RV.rep B w (.sl 1 (nums .i64 l)) (.slice A n c):=by
 have hl:l.length=n:=by have :=h.1;rw[zom]at this;omega
 rw[RV.rep,zao]
 refine⟨A,c,by rw[hl],by omega,hc,fun e he=>by simp only[nums,List.mem_map]at he;obtain⟨b,_,rfl⟩:=he;rfl,fun hne=>?_⟩
 have hpos:0<n:=by
  rcases Nat.eq_zero_or_pos n with h0|h0
  ·exact absurd (List.eq_nil_of_length_eq_zero (by rw[zao];omega)) hne
  ·exact h0
 obtain⟨ad,e,hcell⟩:=h.2 hpos
 have hlt:ad.block<w.heap.size:=by
  have :=block_lt_of_cell (hcell 0 _ (zol l 0 (by omega)))
  rwa [add_block]at this
 refine⟨ad,e,hlt,hB _ hlt,?_⟩
 rw[RV.rows_flat,RV.row_vals]
 exact⟨iv l,zjP _ _ l,fun j v hj=>by rw[Nat.zero_add];exact hcell j v hj⟩
end Go.Proofs.YthiioppfnmcclaaGreat
namespace Go.Proofs.YthiioppfnmcclaaGreat
open Go.RowKit
def Own (w:World) (base:Nat) (v:Value) (l:List UInt8):Prop:=w.ownsRow base 5 1 v l.length (bv l)
theorem zob (l:List UInt8):∀u∈bv l,u.oneCell'=true:=by
 intro u hu
 simp only[bv,List.mem_map]at hu
 obtain⟨b,_,rfl⟩:=hu
 rfl
section
variable {w w':World} {base:Nat} {v:Value} {l:List UInt8}
theorem Own.nil (w:World) (base:Nat):Own w base (.slice none 0 0) []:=World.ownsRow_nil w base 5 1
theorem Own.form (h:Own w base v l):∃A c,v= .slice A l.length c∧Rd w 1 A l.length (bv l)∧l.length≤c∧c≤maxLen:=by
 have h':=h
 rcases h.2 with⟨e,h0⟩|⟨g,cap,cur,e,h1,h2,h3,h4,h5,h6⟩
 ·subst e
  have :l=[]:=List.eq_nil_of_length_eq_zero h0
  subst this
  exact⟨none,0,rfl,Rd.nil,Nat.le_refl _,by unfold maxLen;omega⟩
 ·subst e
  exact⟨_,_,rfl,Rd.of_own h',h3,h4⟩
theorem Own.len (h:Own w base v l):l.length≤maxLen:=by
 obtain⟨A,c,_,_,h1,h2⟩:=h.form
 omega
theorem Own.ownBlock (h:Own w base v l):∀k,v.ownBlock=some k→base≤k∧k<w.heap.size:=World.ownsRow.lt h
theorem Own.mono {base':Nat} (h:Own w base v l) (hb:base'≤base):Own w base' v l:=
 ⟨h.1,h.2.imp id (fun⟨g,cap,cur,e,h1,r⟩=>⟨g,cap,cur,e,by omega,r⟩)⟩
theorem Own.below (h:Own w base v l) (hb:Below w.heap.size w w'):Own w' base v l:=
 World.ownsRow.kept h (row:=none) ⟨hb.os,hb.tape,hb.output,hb.size,fun k hk _=>hb.block k hk⟩ (by
  rcases e:v.ownBlock with _|g
  ·exact .inl rfl
  ·exact .inr (by simp))
theorem Own.grown {row:Option Nat} (h:Own w base v l) (hg:w.grownBy w' row) (hne:v.ownBlock=none∨v.ownBlock≠row):Own w' base v l:=
 World.ownsRow.kept h hg hne
theorem Own.drew (h:Own w base v l):Own w.drew base v l:=h
theorem Own.alloc (h:Own w base v l) (o:Obj):Own (w.alloc o) base v l:=World.ownsRow.alloc h o
end
@[go_sem] theorem eql_nil_bytes (w:World) (A:Option Addr) (l c:Nat):(binOp .eql 28 (.slice A l c) (.slice none 0 0)).run Tryz.prog w= .ok (.bool A.isNone) w:=by
 have h:∀d:Nat,(Op.equalIn (d+1) 28 (.slice A l c) (.slice none 0 0)).run Tryz.prog w= .ok A.isNone w:=fun d=>by
  cases A<;>simp[Op.equalIn,run_underlying Tryz.underlying28]
 simp only[binOp]
 simp[Op.equal,Op.maxDepth,h 9999]
@[go_sem] theorem conv_bytes_bytes (w:World) (C:Array Value) (n c:Nat):(convert 28 28 (.slice (some ⟨w.heap.size,0,none⟩) n c)).run Tryz.prog (w.alloc (.cells C 5))= .ok (.slice (some ⟨w.heap.size,0,none⟩) n c) (w.alloc (.cells C 5 (C.size,C.size+1))):=
 Lib.run_convert_bytes_const (P:=Tryz.prog) w 28 5 C n c Tryz.underlying28 Tryz.underlying5
theorem zhN:(Tryz.prog.info? 5).map (fun i=>(i.zero,i.size,i.bytes))=some (some (.int .u8 0),1,1):=by kernel_rfl
theorem Own.empty (w:World):Own (w.alloc (.cells #[] 5)) w.heap.size (.slice (some ⟨w.heap.size,0,none⟩) 0 0) []:=
 ⟨by simp[bv],.inr ⟨w.heap.size,0, #[],rfl,Nat.le_refl _,heap_alloc_new _ _,Nat.le_refl _,by unfold maxLen;omega,rfl,rfl⟩⟩
theorem zgA (w:World) (base:Nat) (v:Value) (l:List UInt8) (hown:Own w base v l)
  (A:Option Addr) (c:Nat) (news:List UInt8) (hr:Rd w 1 A news.length (bv news)) (hlen:l.length+news.length≤211106232532992) (hbase:base≤w.heap.size) (ty:TypeId):
  ∃v' w',(Builtin.append_ #[28,28] ty #[v,.slice A news.length c]).run Tryz.prog w= .ok v' w'∧Own w' base v' (l++news)∧w.grownBy w' v.ownBlock∧(v'.ownBlock=v.ownBlock∨v'.ownBlock=some w.heap.size):=by
 obtain⟨i,hi,hz,hs,hby⟩:=info_parts zhN
 have ht:=Tryz.underlying28
 have key:∀(ad:Addr) (news:List UInt8),(∀j u,(bv news)[j]? =some u→w.cell? (ad.add j)=some u)→l.length+news.length≤211106232532992→
   ∃v' w',(Builtin.append_ #[28,28] ty #[v,.slice (some ad) news.length c]).run Tryz.prog w= .ok v' w'∧Own w' base v' (l++news)∧w.grownBy w' v.ownBlock∧(v'.ownBlock=v.ownBlock∨v'.ownBlock=some w.heap.size):=by
  intro ad news hc hlen
  obtain⟨v',w',h1,h2,h3,_,h5⟩:=Go.Ab.run_append_wide_at (P:=Tryz.prog) w base 28 ty 5 i _ 1 1 ht hi hz hs hby rfl (by omega) v l.length (bv l) hown ad news.length c (bv news) (by rw[zgQ];omega) hc (zob _) (by unfold maxLen;omega) (by omega) hbase
  refine⟨v',w',h1,?_,h3,h5⟩
  unfold Own
  rw[List.length_append,zjG]
  exact h2
 rcases A with _|ad
 ·have h0:news=[]:=by
   rcases Nat.eq_zero_or_pos news.length with h0|h0
   ·exact List.eq_nil_of_length_eq_zero h0
   ·obtain⟨ad,e,_⟩:=hr.2 h0;cases e
  subst h0
  refine⟨v,w,?_,by simpa using hown,World.grownBy.refl w _,.inl rfl⟩
  rcases hown.2 with⟨rfl,_⟩|⟨g,cap,cur,rfl,_,_,hnc,_⟩
  ·simp[Builtin.append_,run_underlying ht,sizeOf,typeInfo,hi,Builtin.lenOf,Builtin.firstCells]
  ·simp[Builtin.append_,run_underlying ht,sizeOf,typeInfo,hi,Builtin.lenOf,Builtin.firstCells,hnc,storeCells]
 ·refine key ad news (fun j u hu=>?_) hlen
  have hj:0<news.length:=by
   rcases Nat.eq_zero_or_pos news.length with h0|h0
   ·rw[List.eq_nil_of_length_eq_zero h0]at hu;simp[bv]at hu
   ·exact h0
  obtain⟨ad',e,hc⟩:=hr.2 hj
  injection e with e
  subst e
  exact hc j u hu
theorem zeH {w:World} {ops:Array Oper} {rest:List Oper} {o:Oper} {a:Act} {Q:Exit→Act→World→Prop} (hgd:o.guard=none) (s x:Operand)
  (ho:o.op= .call { callee:=.builtin .append,args:= #[s,x],argTypes:= #[28,28]})
  (base:Nat) (v:Value) (l:List UInt8) (hs:a.eval s=v) (hown:Own w base v l)
  (A:Option Addr) (m c:Nat) (news:List UInt8) (hx:a.eval x= .slice A m c) (hr:Rd w 1 A m (bv news)) (hlen:l.length+m≤211106232532992) (hbase:base≤w.heap.size)
  (h:∀v' w',Own w' base v' (l++news)→w.grownBy w' v.ownBlock→(v'.ownBlock=v.ownBlock∨v'.ownBlock=some w.heap.size)→wpList Tryz.prog ops Q rest (a.put o.dst v') w'):wpList Tryz.prog ops Q (o::rest) a w:=by
 have hm:m=news.length:=hr.len
 subst hm
 refine wpList_plain hgd fun K hK=>?_
 obtain⟨v',w',h1,h2,h3,h4⟩:=zgA w base v l hown A c news hr hlen hbase o.type
 unfold Oper.wp execOp
 simp only[ho,resolve,invoke,builtin,Sem.run_bind,Sem.run_pure,Result.andThen_ok,List.map_toArray,List.map_cons,List.map_nil,hs,hx,h1]
 exact hK _ _ (h v' w' h2 h3 h4)
theorem Rd.one (w:World) (x:Int) (h0:0≤x) (h1:x<256):Rd (w.alloc (.cells #[.int .u8 x] 5)) 1 (some ⟨w.heap.size,0,none⟩) 1 (bv [UInt8.ofNat x.toNat]):=by
 refine⟨by simp[bv],fun _=>⟨_,rfl,fun j u hu=>?_⟩⟩
 have :((UInt8.ofNat x.toNat).toNat:Int)=x:=by simp;omega
 rw[bv,List.map_cons,List.map_nil,this]at hu
 exact cell_one_new w _ 5 j u hu
theorem below_grown {B:Nat} {a w w':World} {v:Value} {base:Nat} {l:List UInt8} (hb:Below B a w) (hown:Own w base v l) (hg:w.grownBy w' v.ownBlock) (hB:B≤base) (hs:B≤w.heap.size):Below B a w':=
 hb.grown hg hs (fun k hk=>by have :=(hown.ownBlock k hk).1;omega)
def zmR (w:World) (l:List UInt8) (e:Ending) (w':World):Prop:=∃r,e= .returned r∧Own w' w.heap.size r l∧Below w.heap.size w w'
def Onto (w:World) (base:Nat) (b:Value) (l:List UInt8) (e:Ending) (w':World):Prop:=
 ∃r,e= .returned r∧Own w' base r l∧w.grownBy w' b.ownBlock∧(r.ownBlock=b.ownBlock∨∃k,r.ownBlock=some k∧w.heap.size≤k)
def leb (v k:Nat):UInt8:=UInt8.ofNat (v/2^(8*k))
def le (v n:Nat):List UInt8:=(List.range n).map (leb v)
def IsRd (l:List UInt8) (v:Value) (w:World):Prop:=∃A c,v= .slice A l.length c∧l.length≤c∧Rd w 1 A l.length (bv l)
def zn2 (M:Nat→Prop) (l:List UInt8) (v:Value) (w:World):Prop:=∃A c,v= .slice A l.length c∧l.length≤c∧Rd w 1 A l.length (bv l)∧∀ad,A=some ad→¬M ad.block
theorem Rd.upto {M:Nat→Prop} {w w':World} {size n:Nat} {A:Option Addr} {vs:List Value} (h:Rd w size A n vs) (hu:Upto M w w') (hA:0<n→∀ad,A=some ad→¬M ad.block):Rd w' size A n vs:=
 ⟨h.1,fun hn=>by
  obtain⟨ad,e,hc⟩:=h.2 hn
  exact⟨ad,e,fun j u hv=>hu.cell (hc j u hv) (by rw[add_block];exact hA hn ad e)⟩⟩
theorem zn2.rd {M:Nat→Prop} {l:List UInt8} {A:Option Addr} {n c:Nat} {w:World} (h:zn2 M l (.slice A n c) w):Rd w 1 A n (bv l)∧n≤c∧n=l.length:=by
 obtain⟨A',c',e,hc,hr,_⟩:=h
 injection e with e1 e2 e3
 subst e1 e2 e3
 exact⟨hr,hc,rfl⟩
theorem Own.upto {M:Nat→Prop} {w w':World} {base:Nat} {v:Value} {l:List UInt8} (h:Own w base v l) (hu:Upto M w w') (hM:∀g,v.ownBlock=some g→¬M g):Own w' base v l:=by
 refine⟨h.1,?_⟩
 rcases h.2 with h1|⟨g,cap,cur,e,h1,h2,h3⟩
 ·exact .inl h1
 ·have hg:g<w.heap.size:=by
   rcases Nat.lt_or_ge g w.heap.size with h'|h'
   ·exact h'
   ·rw[Array.getElem?_eq_none h']at h2;cases h2
  exact .inr ⟨g,cap,cur,e,h1,(hu.block g hg (hM g (by rw[e];rfl))).trans h2,h3⟩
theorem IsRd.rd {l:List UInt8} {A:Option Addr} {n c:Nat} {w:World} (h:IsRd l (.slice A n c) w):Rd w 1 A n (bv l)∧n≤c∧n=l.length:=by
 obtain⟨A',c',e,hc,hr⟩:=h
 injection e with e1 e2 e3
 subst e1 e2 e3
 exact⟨hr,hc,rfl⟩
theorem IsRd.of_own {w:World} {base:Nat} {v:Value} {l:List UInt8} (h:Own w base v l):IsRd l v w:=by
 obtain⟨A,c,e,hr,hc,_⟩:=h.form
 exact⟨A,c,e,hc,hr⟩
/-! ## Regions whose order is open: one walk in the order of the text, where each operation yields one value in every world below. -/
theorem Bel.rd {w:World} (d:Bel w.heap.size w) {size n:Nat} {A:Option Addr} {vs:List Value} (h:Rd w size A n vs):Rd d.1 size A n vs:=h.below d.2
end Go.Proofs.YthiioppfnmcclaaGreat
namespace Go.Proofs.YthiioppfnmcclaaGreat
open Go.RowKit Go.Ab
theorem clone_any (l:List UInt8) (A:Option Addr) (n c:Nat) (w:World) (h:Rd w 1 A n (bv l)) (hl:l.length≤140737488355328):
  Calls Tryz.prog 38 #[.slice A n c] w (zmR w l):=by
 have hn:=h.len
 subst hn
 by_cases hnil:A=none
 ·subst hnil
  have h0:l=[]:=by
   rcases Nat.eq_zero_or_pos l.length with h0|h0
   ·exact List.eq_nil_of_length_eq_zero h0
   ·obtain⟨ad,e,_⟩:=h.2 h0;cases e
  subst h0
  go_enter Tryz.func38,Tryz.ntmps38
  go_wp2
  go_ret
  exact⟨_,rfl,Own.nil _ _,Below.refl _ _⟩
 ·obtain⟨ad,rfl⟩:=Option.ne_none_iff_exists'.1 hnil
  go_enter Tryz.func38,Tryz.ntmps38
  go_wp2_with (at_builtin;refine zeH rfl (.tmp 5) (.tmp 6) rfl w.heap.size _ [] rfl (Own.empty w) (some ad) l.length c l rfl (h.alloc _) (by simp;omega) (by simp) ?_;intro v1 w1 how1 hg1 hat1)
  go_ret
  exact⟨_,rfl,how1,below_grown ((Below.refl _ _).alloc (Nat.le_refl _) _) (Own.empty w) hg1 (Nat.le_refl _) (by simp)⟩
theorem zcI (z:Array Value) (n:Nat):(Builtin.zeroCells z n).size=n*z.size:=by simp[Builtin.zeroCells]
theorem run_append_room (w:World) (n:Nat) (h0:0<n) (hn:n≤140737488355328) (ty:TypeId):
  ∃c w',(Builtin.append_ #[28,3] ty #[.slice none 0 0,.int .i64 n]).run Tryz.prog w= .ok (.slice (some ⟨w.heap.size,0,none⟩) n c) w'∧
   Own w' w.heap.size (.slice (some ⟨w.heap.size,0,none⟩) 0 c) []∧Below w.heap.size w w'∧n≤c:=by
 obtain⟨i,hi,hz,hs,hby⟩:=info_parts zhN
 have hr:=Lib.run_append_nil_zeros (P:=Tryz.prog) w 28 3 ty 5 i (.int .u8 0) .i64 .i64 Tryz.underlying28 Tryz.underlying3 hi hz n h0 (by omega) (by omega) (by rw[hby];omega)
 have hc:n≤grownCap w n 0 5:=grownCap_ge w n 0 5
 refine⟨_,_,hr,⟨by simp[bv],.inr ⟨w.heap.size,_,_,rfl,Nat.le_refl _,heap_alloc_new _ _,Nat.zero_le _,?_,?_,rfl⟩⟩,(Below.refl _ _).drew.alloc (Nat.le_refl _) _,hc⟩
 ·exact grownCap_le_maxLen w n 0 5 (by unfold maxLen;omega)
 ·rw[Array.size_append,zcI,zcI]
  show n*1+_*1=_*1
  omega
theorem zly (n:Nat) (w:World) (hn:n≤140737488355328):
  Calls Tryz.prog 37 #[.slice none 0 0,.int .i64 n] w (zmR w []):=by
 by_cases h0:0<n
 ·obtain⟨c,w',hr,how,hb,hc⟩:=run_append_room w n h0 hn 28
  go_enter Tryz.func37,Tryz.ntmps37
  go_wp2_with (at_builtin;refine Lib.wpList_append_run _ rfl _ _ _ _ rfl _ _ rfl rfl _ _ hr ?_)
  go_ret
  exact⟨_,rfl,how,hb⟩
 ·obtain rfl:n=0:=by omega
  go_enter Tryz.func37,Tryz.ntmps37
  go_wp2
  go_ret
  exact⟨_,rfl,Own.nil _ _,Below.refl _ _⟩
theorem zov {B:Nat→Prop} {w:World} {l:List UInt8} {u:Value} (h:RV.rep B w (.sl 1 (bys l)) u):∃A c,u= .slice A l.length c∧l.length≤c∧c≤maxLen∧Rd w 1 A l.length (bv l):=by
 rw[RV.rep,zas]at h
 obtain⟨A,c,h1,h2,h3,h4,h5⟩:=h
 refine⟨A,c,h1,h2,h3,by simp[bv],fun hn=>?_⟩
 obtain⟨ad,e,_,_,h6⟩:=h5 (by intro e;have h:=congrArg List.length e;rw[zas,List.length_nil]at h;omega)
 rw[RV.rows_flat,RV.row_vals]at h6
 obtain⟨us,h7,h8⟩:=h6
 refine⟨ad,e,fun j v hj=>?_⟩
 have :=zga l us h7
 have h9:=h8 j v (by rw[this,List.map_map];exact hj)
 rwa [Nat.zero_add]at h9
theorem zh6 (B:Nat→Prop) (w:World):∀l:List UInt8,RVs B w (bys l).flatten (bv l)
 |[]=>.nil
 |b::l=>by
  rw[bys,List.map_cons,List.flatten_cons,bv,List.map_cons]
  exact .cons rfl (by rw[RV.rep]) (zh6 B w l)
theorem zgj {w:World} {base x:Nat} {v:Value} {l:List UInt8} (ho:Own w base v l) (hx:blk v=some x):base≤x:=by
 have h1:v.ownBlock=some x:=by
  obtain⟨A,c,e,_⟩:=ho.form
  subst e
  cases A with
  |none=>simp[blk]at hx
  |some ad=>simpa[blk,Value.ownBlock]using hx
 exact(ho.ownBlock x h1).1
theorem zhv {k:Nat} {Z:Nat→Value} {M:Nat→Prop} {w w':World} {v:Value} {l:List UInt8} (hM:∀x,M x→x<w.heap.size) (ho:Own w' w.heap.size v l) (hb:Below w.heap.size w w'):After k (zaq k [] (.fr 5 1 (bys l)) []) Z M w v w':=by
 refine⟨fun i=>if i=k then v else Z i,fun i hi=>?_,?_,fun i b h=>by simp[zaq,zaM]at h,fun j b hj=>?_,fun j j' x hj hj' hne=>?_,fun j x hj hx=>.inl ?_,Go.Ab.Upto.of_below hb⟩
 ·have :i≠k:=by simp[zaq,AV.unfr]at hi;omega
  simp[this]
 ·simp[zaq,AV.unfr,AV.rep]
 ·cases j with
  |zero=>
   simp[zaq,AV.unfr]at hj
   subst hj
   refine⟨bv l,?_,zh6 _ _ l,fun e he=>by simp only[bys,List.mem_map]at he;obtain⟨b,_,rfl⟩:=he;rfl⟩
   simp only[Nat.add_zero,if_pos,zas]
   exact ho.mono (Nat.zero_le _)
  |succ j=>simp[zaq,AV.unfr]at hj
 ·simp[zaq,AV.unfr]at hj hj';omega
 ·have :j=0:=by simpa[zaq,AV.unfr]using hj
  subst this
  simp only[Nat.add_zero,if_pos]at hx
  have h1:v.ownBlock=some x:=by
   obtain⟨A,c,e,_⟩:=ho.form
   subst e
   cases A with
   |none=>simp[blk]at hx
   |some ad=>simpa[blk,Value.ownBlock]using hx
  exact(ho.ownBlock x h1).1
theorem zhQ {f:FuncId} {l l':List UInt8} (h:∀A c w,l.length≤c→l.length≤maxLen→Rd w 1 A l.length (bv l)→Calls Tryz.prog f #[.slice A l.length c] w (zmR w l')):zam Tryz.prog f [.r (.sl 1 (bys l))] [] (.fr 5 1 (bys l')) []:=by
 intro w Z M k us hM hk hargs _ _
 simp only[AV.reps,AV.rep]at hargs
 obtain⟨u,us',rfl,h1,rfl⟩:=hargs
 obtain⟨A,c,rfl,h2,h3,h4⟩:=zov h1
 exact(h A c w h2 (by omega) h4).mono fun e w' ⟨r,he,ho,hb⟩=>⟨r,he,zhv hM ho hb⟩
theorem zmZ (l:List UInt8) (h:l.length≤140737488355328):zam Tryz.prog 38 [.r (.sl 1 (bys l))] [] (.fr 5 1 (bys l)) []:=zhQ fun A c w h1 h2 h3=>clone_any l A _ c w h3 h
theorem zcT (w:World) (g cap n:Nat) (olds:List Value) (hol:olds.length=cap) (holds:∀j u,olds[j]? =some u→w.cell? ((⟨g,0,none⟩:Addr).add j)=some u) (h0:0<n) (hn:cap+n≤140737488355328) (ty:TypeId):
  (Builtin.append_ #[28,3] ty #[.slice (some ⟨g,0,none⟩) cap cap,.int .i64 n]).run Tryz.prog w= .ok (.slice (some ⟨w.heap.size,0,none⟩) (cap+n) (grownCap w (cap+n) cap 5))
   (w.drew.alloc (.cells (olds.toArray++Builtin.zeroCells #[.int .u8 0] n++Builtin.zeroCells #[.int .u8 0] (grownCap w (cap+n) cap 5-(cap+n))) 5)):=by
 obtain⟨i,hi,hz,hs,hby⟩:=info_parts zhN
 have ht:=Tryz.underlying28
 have htn:=Tryz.underlying3
 have hw:IntKind.i64.wrap (n:Int)=n:=by rw[IntKind.wrap_i64];omega
 have hne:¬(cap+n≤cap):=by omega
 have h63':¬(9223372036854775807<((cap:Int)+(n:Int))):=by omega
 have hfit:=growslice_fits_wide (need:=cap+n) (old:=cap) (bytes:=1) (by omega) (by omega)
 have h48':¬(281474976710656<Builtin.nextslicecap (cap+n) cap*i.bytes):=by rw[hby];omega
 have h48i:¬(281474976710656<(n:Int)*(i.bytes:Int)):=by rw[hby];omega
 have hneg:¬((n:Int)<0):=by omega
 have hns:¬(n*i.size=0):=by rw[hs];omega
 have hn0:n≠0:=by omega
 have hfo:=run_firstCells_some (P:=Tryz.prog) w.drew i.size cap ⟨g,0,none⟩ cap cap olds (by rw[hs];omega) (by simpa using holds)
 have hzc:Value.cells (.int .u8 0)= #[.int .u8 0]:=rfl
 simp[Builtin.append_,run_underlying ht,run_underlying htn,sizeOf,typeInfo,zeroValue,hi,hz,asInt,asIntOf,hw,hne,hneg,hns,hn0,h63',h48',h48i,Question.forced,hfo,newRow,grownCap,hzc]
theorem zhH (l:List UInt8) (v:Value) (n base:Nat) (w:World) (hown:Own w base v l) (hl:l.length≤140737488355200) (hn:n≤64) (hbase:base≤w.heap.size):Calls Tryz.prog 37 #[v,.int .i64 n] w (Onto w base v l):=by
 rcases hown.2 with⟨rfl,hl0⟩|⟨g,cap,cur,rfl,hb,hg,hlc,hcm,hcs,htk⟩
 ·have e:l=[]:=List.eq_nil_of_length_eq_zero hl0
  subst e
  refine(zly n w (by omega)).mono ?_
  rintro e w' ⟨r,rfl,ho,hb⟩
  refine⟨r,rfl,ho.mono hbase,⟨hb.os,hb.tape,hb.output,hb.size,fun k hk _=>hb.block k hk⟩,?_⟩
  cases hr:r.ownBlock with
  |none=>exact .inl rfl
  |some k=>exact .inr ⟨k,rfl,(ho.ownBlock k hr).1⟩
 ·have hcm2:(cap:Int)≤9223372036854775807:=by simp only[maxLen]at hcm;omega
  have hw1:IntKind.i64.wrap ((cap:Int)-(l.length:Int))=(cap:Int)-(l.length:Int):=IntWalk.i64_in _ (by omega)
  have hw2:IntKind.i64.wrap ((n:Int)-((cap:Int)-(l.length:Int)))=(n:Int)-((cap:Int)-(l.length:Int)):=IntWalk.i64_in _ (by omega)
  have hn0:¬((n:Int)<0):=by omega
  by_cases hc:cap<l.length+n
  ·have hg0:(0:Int)<(n:Int)-((cap:Int)-(l.length:Int)):=by omega
   obtain⟨m,hm⟩:∃m:Nat,(n:Int)-((cap:Int)-(l.length:Int))=m:=⟨n-(cap-l.length),by omega⟩
   have hcsz:cur.toList.length=cap:=by rw[Array.length_toList,hcs,Nat.mul_one]
   have hrun:=zcT w g cap m cur.toList hcsz (fun j u hj=>by
    rw[add_mid,Nat.zero_add,cell_of_row w g j cur _ _ hg];simpa using hj) (by omega) (by omega) 28
   have hge:=grownCap_ge w (cap+m) cap 5
   have hlm:=grownCap_le_maxLen w (cap+m) cap 5 (by unfold maxLen;omega)
   generalize grownCap w (cap+m) cap 5=C at *
   have hlC:(l.length:Int)≤(C:Int):=by omega
   go_enter Tryz.func37,Tryz.ntmps37
   go_wp2_with (at_builtin;refine Lib.wpList_append_run _ rfl _ _ _ _ rfl _ _ rfl rfl _ _ hrun ?_)
   go_ret
   refine⟨_,rfl,⟨hown.1,.inr ⟨w.heap.size,C,_,rfl,hbase,heap_alloc_new _ _,by omega,hlm,?_,?_⟩⟩,⟨rfl,rfl,rfl,by simp,fun k hk _=>heap_alloc_old _ _ hk⟩,.inr ⟨w.heap.size,rfl,Nat.le_refl _⟩⟩
   ·simp only[Array.size_append,zcI,hcs]
    simp
    omega
   ·rw[←htk]
    simp only[Array.toList_append,List.append_assoc]
    rw[List.take_append_of_le_length (by omega)]
  ·go_enter Tryz.func37,Tryz.ntmps37
   have hg0:¬(0:Int)<(n:Int)-((cap:Int)-(l.length:Int)):=by omega
   go_wp2
   go_ret
   exact⟨_,rfl,hown,World.grownBy.refl _ _,.inl rfl⟩
theorem zjZ (l:List UInt8) (n:Nat) (hl:l.length≤140737488355200) (hn:n≤64):zam Tryz.prog 37 [.ow 0,.r (.v (.int .i64 n))] [.row 5 1 (bys l)] (.fr 5 1 (bys l)) [none]:=by
 intro w Z M k us hM hk hargs hpre hdist
 simp only[AV.reps,AV.rep,RV.rep]at hargs
 obtain⟨_,us',rfl,rfl,_,_,rfl,rfl,rfl⟩:=hargs
 obtain⟨⟨vs,h1,h2,h3⟩,h4⟩:=hpre 0 _ (by simp[numd];exact rfl)
 have h5:=zga l vs h2
 have hown:Own w 0 (Z 0) l:=by
  rw[zas]at h1
  rw[List.map_map]at h5
  rw[h5]at h1
  exact h1
 refine(zhH l (Z 0) n 0 w hown hl hn (Nat.zero_le _)).mono ?_
 rintro e w' ⟨r,rfl,ho,hg,hor⟩
 have hk0:k≠0:=by simp at hk;omega
 have hown':∀x,blk r=some x→w.heap.size≤x∨blk (Z 0)=some x:=by
  intro x hx
  have e1:r.ownBlock=some x:=by
   obtain⟨A,c,e,_⟩:=ho.form
   subst e
   cases A with
   |none=>simp[blk]at hx
   |some ad=>simpa[blk,Value.ownBlock]using hx
  have e2:(Z 0).ownBlock=blk (Z 0):=by
   obtain⟨A,c,e,_⟩:=hown.form
   rw[e]
   cases A<;>rfl
  rcases hor with h|⟨q,h,hq⟩
  ·exact .inr (by rw[←e2,←h,e1])
  ·rw[e1]at h;injection h with h;exact .inl (by omega)
 have e2:(Z 0).ownBlock=blk (Z 0):=by
  obtain⟨A,c,e,_⟩:=hown.form
  rw[e]
  cases A<;>rfl
 refine⟨r,rfl,fun i=>if i=k then r else Z i,⟨fun i hi=>?_,by simp[zaq,AV.unfr,AV.rep],fun i b h=>?_,fun j b hj=>?_,fun j j' x hj hj' hne=>?_,fun j x hj hx=>?_,?_⟩⟩
 ·have :i≠k:=by simp[zaq,AV.unfr]at hi;omega
  simp[this]
 ·simp[zaq,zaM]at h
 ·cases j with
  |zero=>
   simp[zaq,AV.unfr]at hj
   subst hj
   refine⟨bv l,?_,zh6 _ _ l,fun e he=>by simp only[bys,List.mem_map]at he;obtain⟨b,_,rfl⟩:=he;rfl⟩
   simp only[Nat.add_zero,if_pos,zas]
   exact ho
  |succ j=>simp[zaq,AV.unfr]at hj
 ·simp[zaq,AV.unfr]at hj hj';omega
 ·have :j=0:=by simpa[zaq,AV.unfr]using hj
  subst this
  simp only[Nat.add_zero,if_pos]at hx
  rcases hown' x hx with h|h
  ·exact .inl h
  ·exact .inr ⟨0,by simp[zaq,zaM],h⟩
 ·exact⟨hg.os,hg.tape,hg.output,hg.size,fun q hq hne=>hg.block q hq (fun e=>hne ⟨0,none,by simp[zaq,zaM],by rw[←e2];exact e.symm⟩)⟩
end Go.Proofs.YthiioppfnmcclaaGreat
