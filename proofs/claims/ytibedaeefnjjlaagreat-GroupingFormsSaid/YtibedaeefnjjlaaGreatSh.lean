/- The library's contracts at this translation, as the kit's tool prints them in plain words. No conditions. -/
import Derived.Shelf.Small.Bits
import Derived.Shelf.Small.Wraps
import Derived.Shelf.Strconv.Itoa0
import Derived.Shelf.Sort.Plain
import Derived.Shelf.Bits.Mul64
import Derived.Ground.Names2Prog
import Derived.Shelf.Slices.SearchI
import Derived.Shelf.Slices.In.SortNone
import Derived.Shelf.SlSortCmp.WholeK
import Derived.Ground.SlsfProg
import Derived.Test.YtibedaeefnjjlaaGreatProg
/-
  DERIVED: THE SHELF's CONTRACTS AT THIS DUMP, IN PLAIN WORDS (tools/lay-plain.mjs out of 'TryzShelf.lean', which tools/lay-shelf.mjs wrote): THE SAME DECLARATIONS UNDER THE SAME NAMES: 'import', 'namespace', 'open', 'def', 'theorem' AND NOTHING ELSE: no command of the shelf's: FOR A HAND-IN. Each laying: the table of numbers ('.._ren') and one theorem, a field a fact of the dump's own or the kernel's comparison; each contract: ONE APPLICATION.
-/
namespace Go.Proofs
open Go.Shelf
def Tryz.lays125_ren : Go.Shelf.Ren := ⟨fun | 125 => 74 | 128 => 109 | 129 => 110 | n => n, fun | 46 => 77 | 3 => 3 | 51 => 151 | 53 => 33 | 4 => 4 | 5 => 5 | 9 => 9 | n => n, fun | n => n⟩
theorem Tryz.lays125 : Go.Proofs.Lays.n125 Tryz.prog Tryz.lays125_ren := {
  mixed := by kernel_rfl
  f125 := Tryz.func74.trans (congrArg some (by kernel_rfl))
  f128 := Tryz.func109.trans (congrArg some (by kernel_rfl))
  f129 := Tryz.func110.trans (congrArg some (by kernel_rfl))
  t3 := Tryz.underlying3
  a3 := Tryz.isAgg3
  z3 := Tryz.sizeOf3
  v3 := Tryz.zeroValue3
  t4 := Tryz.underlying4
  a4 := Tryz.isAgg4
  z4 := Tryz.sizeOf4
  v4 := Tryz.zeroValue4
  t5 := Tryz.underlying5
  a5 := Tryz.isAgg5
  z5 := Tryz.sizeOf5
  v5 := Tryz.zeroValue5
  t9 := Tryz.underlying9
  a9 := Tryz.isAgg9
  z9 := Tryz.sizeOf9
  v9 := Tryz.zeroValue9
  t46 := Tryz.underlying77
  a46 := Tryz.isAgg77
  z46 := Tryz.sizeOf77
  v46 := Tryz.zeroValue77
  t51 := Tryz.underlying151
  a51 := Tryz.isAgg151
  z51 := Tryz.sizeOf151
  v51 := Tryz.zeroValue151
  t53 := Tryz.underlying33
  a53 := Tryz.isAgg33
  z53 := Tryz.sizeOf33
  v53 := Tryz.zeroValue33 }
theorem Tryz.bits_Len (x : Int) (w : World) (h0 : 0 ≤ x) (h1 : x ≤ 18446744073709551615) :
    Calls Tryz.prog 74 #[.int .u64 x] w fun e w' => e = .returned (.int .i64 (Lib.bitLen x.toNat)) ∧ w' = w := Any.bits_Len Tryz.lays125 x w h0 h1
def Tryz.lays134_ren : Go.Shelf.Ren := ⟨fun | 134 => 149 | 129 => 110 | n => n, fun | 53 => 33 | 3 => 3 | 4 => 4 | 46 => 77 | 5 => 5 | 9 => 9 | n => n, fun | n => n⟩
theorem Tryz.lays134 : Go.Proofs.Lays.n134 Tryz.prog Tryz.lays134_ren := {
  mixed := by kernel_rfl
  f129 := Tryz.func110.trans (congrArg some (by kernel_rfl))
  f134 := Tryz.func149.trans (congrArg some (by kernel_rfl))
  t3 := Tryz.underlying3
  a3 := Tryz.isAgg3
  z3 := Tryz.sizeOf3
  v3 := Tryz.zeroValue3
  t4 := Tryz.underlying4
  a4 := Tryz.isAgg4
  z4 := Tryz.sizeOf4
  v4 := Tryz.zeroValue4
  t5 := Tryz.underlying5
  a5 := Tryz.isAgg5
  z5 := Tryz.sizeOf5
  v5 := Tryz.zeroValue5
  t9 := Tryz.underlying9
  a9 := Tryz.isAgg9
  z9 := Tryz.sizeOf9
  v9 := Tryz.zeroValue9
  t46 := Tryz.underlying77
  a46 := Tryz.isAgg77
  z46 := Tryz.sizeOf77
  v46 := Tryz.zeroValue77
  t53 := Tryz.underlying33
  a53 := Tryz.isAgg33
  z53 := Tryz.sizeOf33
  v53 := Tryz.zeroValue33 }
theorem Tryz.bits_LeadingZeros64 (x : Int) (w : World) (h0 : 0 ≤ x) (h1 : x ≤ 18446744073709551615) :
    Calls Tryz.prog 149 #[.int .u64 x] w fun e w' => e = .returned (.int .i64 (64 - (Lib.bitLen x.toNat : Int))) ∧ w' = w := Any.bits_LeadingZeros64 Tryz.lays134 x w h0 h1
open Go.RowKit in
open Go.RowKit in
def Tryz.lays129_ren : Go.Shelf.Ren := ⟨fun | 129 => 110 | n => n, fun | 53 => 33 | 3 => 3 | 4 => 4 | 46 => 77 | 5 => 5 | 9 => 9 | n => n, fun | n => n⟩
theorem Tryz.lays129 : Go.Proofs.Lays.n129 Tryz.prog Tryz.lays129_ren := {
  mixed := by kernel_rfl
  f129 := Tryz.func110.trans (congrArg some (by kernel_rfl))
  t3 := Tryz.underlying3
  a3 := Tryz.isAgg3
  z3 := Tryz.sizeOf3
  v3 := Tryz.zeroValue3
  t4 := Tryz.underlying4
  a4 := Tryz.isAgg4
  z4 := Tryz.sizeOf4
  v4 := Tryz.zeroValue4
  t5 := Tryz.underlying5
  a5 := Tryz.isAgg5
  z5 := Tryz.sizeOf5
  v5 := Tryz.zeroValue5
  t9 := Tryz.underlying9
  a9 := Tryz.isAgg9
  z9 := Tryz.sizeOf9
  v9 := Tryz.zeroValue9
  t46 := Tryz.underlying77
  a46 := Tryz.isAgg77
  z46 := Tryz.sizeOf77
  v46 := Tryz.zeroValue77
  t53 := Tryz.underlying33
  a53 := Tryz.isAgg33
  z53 := Tryz.sizeOf33
  v53 := Tryz.zeroValue33 }
theorem Tryz.bits_Len64 (x : Int) (w : World) (h0 : 0 ≤ x) (h1 : x ≤ 18446744073709551615) :
    Calls Tryz.prog 110 #[.int .u64 x] w fun e w' => e = .returned (.int .i64 (Lib.bitLen x.toNat)) ∧ w' = w := Any.bits_Len64 Tryz.lays129 x w h0 h1
def Tryz.lays189_ren : Go.Shelf.Ren := ⟨fun | 189 => 38 | 125 => 74 | 257 => 73 | 128 => 109 | 129 => 110 | 294 => 100 | 295 => 101 | 296 => 102 | 297 => 103 | 298 => 104 | 299 => 105 | 216 => 106 | 300 => 107 | 301 => 108 | 328 => 139 | 329 => 140 | 330 => 141 | 331 => 142 | 332 => 143 | 215 => 99 | 343 => 154 | n => n, fun | 28 => 23 | 3 => 3 | 46 => 77 | 0 => 0 | 51 => 151 | 53 => 33 | 4 => 4 | 183 => 143 | 182 => 142 | 131 => 148 | 5 => 5 | 9 => 9 | 218 => 169 | 222 => 172 | 228 => 179 | 229 => 180 | n => n, fun | n => n⟩
theorem Tryz.lays189 : Go.Proofs.Lays.n189 Tryz.prog Tryz.lays189_ren := {
  mixed := by kernel_rfl
  f125 := Tryz.func74.trans (congrArg some (by kernel_rfl))
  f128 := Tryz.func109.trans (congrArg some (by kernel_rfl))
  f129 := Tryz.func110.trans (congrArg some (by kernel_rfl))
  f189 := Tryz.func38.trans (congrArg some (by kernel_rfl))
  f215 := Tryz.func99.trans (congrArg some (by kernel_rfl))
  f216 := Tryz.func106.trans (congrArg some (by kernel_rfl))
  f257 := Tryz.func73.trans (congrArg some (by kernel_rfl))
  f294 := Tryz.func100.trans (congrArg some (by kernel_rfl))
  f295 := Tryz.func101.trans (congrArg some (by kernel_rfl))
  f296 := Tryz.func102.trans (congrArg some (by kernel_rfl))
  f297 := Tryz.func103.trans (congrArg some (by kernel_rfl))
  f298 := Tryz.func104.trans (congrArg some (by kernel_rfl))
  f299 := Tryz.func105.trans (congrArg some (by kernel_rfl))
  f300 := Tryz.func107.trans (congrArg some (by kernel_rfl))
  f301 := Tryz.func108.trans (congrArg some (by kernel_rfl))
  f328 := Tryz.func139.trans (congrArg some (by kernel_rfl))
  f329 := Tryz.func140.trans (congrArg some (by kernel_rfl))
  f330 := Tryz.func141.trans (congrArg some (by kernel_rfl))
  f331 := Tryz.func142.trans (congrArg some (by kernel_rfl))
  f332 := Tryz.func143.trans (congrArg some (by kernel_rfl))
  f343 := Tryz.func154.trans (congrArg some (by kernel_rfl))
  t0 := Tryz.underlying0
  a0 := Tryz.isAgg0
  z0 := Tryz.sizeOf0
  v0 := Tryz.zeroValue0
  t3 := Tryz.underlying3
  a3 := Tryz.isAgg3
  z3 := Tryz.sizeOf3
  v3 := Tryz.zeroValue3
  t4 := Tryz.underlying4
  a4 := Tryz.isAgg4
  z4 := Tryz.sizeOf4
  v4 := Tryz.zeroValue4
  t5 := Tryz.underlying5
  a5 := Tryz.isAgg5
  z5 := Tryz.sizeOf5
  v5 := Tryz.zeroValue5
  t9 := Tryz.underlying9
  a9 := Tryz.isAgg9
  z9 := Tryz.sizeOf9
  v9 := Tryz.zeroValue9
  t28 := Tryz.underlying23
  a28 := Tryz.isAgg23
  z28 := Tryz.sizeOf23
  v28 := Tryz.zeroValue23
  t46 := Tryz.underlying77
  a46 := Tryz.isAgg77
  z46 := Tryz.sizeOf77
  v46 := Tryz.zeroValue77
  t51 := Tryz.underlying151
  a51 := Tryz.isAgg151
  z51 := Tryz.sizeOf151
  v51 := Tryz.zeroValue151
  t53 := Tryz.underlying33
  a53 := Tryz.isAgg33
  z53 := Tryz.sizeOf33
  v53 := Tryz.zeroValue33
  t131 := Tryz.underlying148
  a131 := Tryz.isAgg148
  z131 := Tryz.sizeOf148
  v131 := Tryz.zeroValue148
  t182 := Tryz.underlying142
  a182 := Tryz.isAgg142
  z182 := Tryz.sizeOf142
  v182 := Tryz.zeroValue142
  t183 := Tryz.underlying143
  a183 := Tryz.isAgg143
  z183 := Tryz.sizeOf143
  v183 := Tryz.zeroValue143
  t218 := Tryz.underlying169
  a218 := Tryz.isAgg169
  z218 := Tryz.sizeOf169
  v218 := Tryz.zeroValue169
  t222 := Tryz.underlying172
  a222 := Tryz.isAgg172
  z222 := Tryz.sizeOf172
  v222 := Tryz.zeroValue172
  t228 := Tryz.underlying179
  a228 := Tryz.isAgg179
  z228 := Tryz.sizeOf179
  v228 := Tryz.zeroValue179
  t229 := Tryz.underlying180
  a229 := Tryz.isAgg180
  z229 := Tryz.sizeOf180
  v229 := Tryz.zeroValue180 }
open Go.Sort Go.RowKit in
theorem Tryz.slices_Sort_int (blk off cap : Nat) (zs : List Int) (w : World) (hH : Holds (Value.int .i64) w blk off zs.toArray) (hblk : blk < w.heap.size) (hsz : zs.length < 4611686018427387904) :
    Calls Tryz.prog 38 #[.slice (some ⟨blk, off, none⟩) zs.length cap] w fun e w' =>
      e = .returned (.tuple #[]) ∧ ∃ n os, w' = grow (putRow (Value.int .i64) (Sort.ahead w n) blk off (zs.mergeSort fun x y => decide (x ≤ y)).toArray) os := Any.slices_Sort_int Tryz.lays189 blk off cap zs w hH hblk hsz
open Go.RowKit Go.Lib in
open Go.RowKit Go.Lib in
open Go.RowKit Go.Lib in
open Go.RowKit Go.Sort in
theorem Tryz.slices_Sort_int_none (p : Option Addr) (cap : Nat) (w : World) :
    Calls Tryz.prog 38 #[.slice p 0 cap] w fun e w' => e = .returned (.tuple #[]) ∧ w' = w := Any.slices_Sort_int_none Tryz.lays189 p cap w
def Tryz.sortPc_ren : Go.Shelf.Ren := ⟨fun | 6 => 66 | 15 => 74 | 14 => 97 | 28 => 109 | 29 => 110 | 20 => 131 | 21 => 132 | 22 => 133 | 23 => 134 | 24 => 135 | 25 => 136 | 26 => 137 | 27 => 138 | 46 => 151 | 47 => 140 | 48 => 141 | 49 => 152 | 50 => 153 | 57 => 161 | n => n, fun | 22 => 22 | 24 => 42 | 25 => 85 | 3 => 3 | 39 => 77 | 0 => 0 | 53 => 151 | 55 => 33 | 4 => 4 | 46 => 143 | 45 => 142 | 50 => 148 | 5 => 5 | 9 => 9 | 66 => 169 | 70 => 172 | 76 => 179 | 77 => 180 | n => n, fun | n => n⟩
theorem Tryz.sortPc : Go.Proofs.SlLaysF0.n6 Tryz.prog Tryz.sortPc_ren := {
  mixed := by kernel_rfl
  f6 := ⟨Tryz.f66.name, by decide, Tryz.func66.trans (congrArg some (by kernel_rfl))⟩
  f14 := ⟨Tryz.f97.name, by decide, Tryz.func97.trans (congrArg some (by kernel_rfl))⟩
  f15 := Tryz.func74.trans (congrArg some (by kernel_rfl))
  f20 := ⟨Tryz.f131.name, by decide, Tryz.func131.trans (congrArg some (by kernel_rfl))⟩
  f21 := ⟨Tryz.f132.name, by decide, Tryz.func132.trans (congrArg some (by kernel_rfl))⟩
  f22 := ⟨Tryz.f133.name, by decide, Tryz.func133.trans (congrArg some (by kernel_rfl))⟩
  f23 := ⟨Tryz.f134.name, by decide, Tryz.func134.trans (congrArg some (by kernel_rfl))⟩
  f24 := ⟨Tryz.f135.name, by decide, Tryz.func135.trans (congrArg some (by kernel_rfl))⟩
  f25 := ⟨Tryz.f136.name, by decide, Tryz.func136.trans (congrArg some (by kernel_rfl))⟩
  f26 := ⟨Tryz.f137.name, by decide, Tryz.func137.trans (congrArg some (by kernel_rfl))⟩
  f27 := ⟨Tryz.f138.name, by decide, Tryz.func138.trans (congrArg some (by kernel_rfl))⟩
  f28 := Tryz.func109.trans (congrArg some (by kernel_rfl))
  f29 := Tryz.func110.trans (congrArg some (by kernel_rfl))
  f46 := ⟨Tryz.f151.name, by decide, Tryz.func151.trans (congrArg some (by kernel_rfl))⟩
  f47 := Tryz.func140.trans (congrArg some (by kernel_rfl))
  f48 := Tryz.func141.trans (congrArg some (by kernel_rfl))
  f49 := ⟨Tryz.f152.name, by decide, Tryz.func152.trans (congrArg some (by kernel_rfl))⟩
  f50 := ⟨Tryz.f153.name, by decide, Tryz.func153.trans (congrArg some (by kernel_rfl))⟩
  f57 := ⟨Tryz.f161.name, by decide, Tryz.func161.trans (congrArg some (by kernel_rfl))⟩
  t0 := Tryz.underlying0
  a0 := Tryz.isAgg0
  z0 := Tryz.sizeOf0
  v0 := Tryz.zeroValue0
  t3 := Tryz.underlying3
  a3 := Tryz.isAgg3
  z3 := Tryz.sizeOf3
  v3 := Tryz.zeroValue3
  t4 := Tryz.underlying4
  a4 := Tryz.isAgg4
  z4 := Tryz.sizeOf4
  v4 := Tryz.zeroValue4
  t5 := Tryz.underlying5
  a5 := Tryz.isAgg5
  z5 := Tryz.sizeOf5
  v5 := Tryz.zeroValue5
  t9 := Tryz.underlying9
  a9 := Tryz.isAgg9
  z9 := Tryz.sizeOf9
  v9 := Tryz.zeroValue9
  t22 := Tryz.underlying22
  a22 := Tryz.isAgg22
  z22 := Tryz.sizeOf22
  v22 := Tryz.zeroValue22
  t25 := Tryz.underlying85
  a25 := Tryz.isAgg85
  z25 := Tryz.sizeOf85
  v25 := Tryz.zeroValue85
  t39 := Tryz.underlying77
  a39 := Tryz.isAgg77
  z39 := Tryz.sizeOf77
  v39 := Tryz.zeroValue77
  t45 := Tryz.underlying142
  a45 := Tryz.isAgg142
  z45 := Tryz.sizeOf142
  v45 := Tryz.zeroValue142
  t46 := Tryz.underlying143
  a46 := Tryz.isAgg143
  z46 := Tryz.sizeOf143
  v46 := Tryz.zeroValue143
  t50 := Tryz.underlying148
  a50 := Tryz.isAgg148
  z50 := Tryz.sizeOf148
  v50 := Tryz.zeroValue148
  t53 := Tryz.underlying151
  a53 := Tryz.isAgg151
  z53 := Tryz.sizeOf151
  v53 := Tryz.zeroValue151
  t55 := Tryz.underlying33
  a55 := Tryz.isAgg33
  z55 := Tryz.sizeOf33
  v55 := Tryz.zeroValue33
  t66 := Tryz.underlying169
  a66 := Tryz.isAgg169
  z66 := Tryz.sizeOf169
  v66 := Tryz.zeroValue169
  t70 := Tryz.underlying172
  a70 := Tryz.isAgg172
  z70 := Tryz.sizeOf172
  v70 := Tryz.zeroValue172
  t76 := Tryz.underlying179
  a76 := Tryz.isAgg179
  z76 := Tryz.sizeOf179
  v76 := Tryz.zeroValue179
  t77 := Tryz.underlying180
  a77 := Tryz.isAgg180
  z77 := Tryz.sizeOf180
  v77 := Tryz.zeroValue180 }
open Go.RowKit Go.Sort Go.Lib in
theorem Tryz.slices_SortFunc_pc {α : Type} [Inhabited α] (enc : α → List Value) (hk : ∀ x, (enc x).length = 24) (h1 : ∀ x, ∀ v ∈ enc x, v.oneCell' = true) (cf : α → α → Int) (hO : SWO (ltOf cf)) (g : Nat) (cb : Array Value) (blk off cap : Nat) (d : Array α) (w : World) (eg : ∀ args w, (callFunc g args).run Tryz.prog w = .ok (.enter g args) w) (hcmp : CmpLays Tryz.prog g cb enc 24 cf blk off d.size w) (hH : HoldsK enc 24 w blk off d) (hblk : blk < w.heap.size) (hsz : d.size < 4611686018427387904) :
    Calls Tryz.prog 66 #[.slice (some ⟨blk, off, none⟩) d.size cap, .func (.func g) #[] cb] w fun e w' =>
      e = .returned (.tuple #[]) ∧ ∃ d' n os, PermIn 0 d.size d d' ∧ SortedIn (ltOf cf) 0 d.size d' ∧ w' = sortWorldK enc 24 w blk off n d' os := AnyQ.slices_SortFunc Tryz.sortPc 24 Tryz.isAgg42 Tryz.sizeOf42 enc hk h1 cf hO g cb blk off cap d w eg hcmp hH hblk hsz
end Go.Proofs
