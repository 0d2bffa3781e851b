/-
  DERIVED: THE SHELF's CONTRACTS AT THIS DUMP, IN PLAIN WORDS (tools/lay-plain.mjs out of 'YthpdladfcjcjiaaDoorShelfLayB.lean', which tools/lay-shelf.mjs wrote): THE SAME DECLARATIONS UNDER THE SAME NAMES: 'import', 'namespace', 'open', 'def', 'theorem' AND NOTHING ELSE: no command of the shelf's: FOR A HAND-IN. Each laying: the table of numbers ('.._ren') and one theorem, a field a fact of the dump's own or the kernel's comparison; each contract: ONE APPLICATION.
-/
import Derived.Shelf.Sort.Plain
import Derived.Shelf.Slices.CompactI
import Derived.Shelf.Slices.In.SortNone
import Derived.Test.YthpdladfcjcjiaaDoorProg
namespace Go.Proofs
open Go.Shelf
def Tryd.lays189_ren : Go.Shelf.Ren := ⟨fun | 189 => 83 | 125 => 95 | 257 => 94 | 128 => 117 | 129 => 118 | 294 => 108 | 295 => 109 | 296 => 110 | 297 => 111 | 298 => 112 | 299 => 113 | 216 => 114 | 300 => 115 | 301 => 116 | 328 => 124 | 329 => 125 | 330 => 126 | 331 => 127 | 332 => 128 | 215 => 129 | 343 => 133 | n => n, fun | 28 => 22 | 3 => 3 | 46 => 104 | 0 => 0 | 51 => 136 | 53 => 78 | 4 => 4 | 183 => 129 | 182 => 128 | 131 => 76 | 5 => 5 | 9 => 9 | 218 => 143 | 222 => 147 | 228 => 151 | 229 => 28 | n => n, fun | n => n⟩
theorem Tryd.lays189 : Go.Proofs.Lays.n189 Tryd.prog Tryd.lays189_ren := {
  mixed := by kernel_rfl
  f125 := Tryd.func95.trans (congrArg some (by kernel_rfl))
  f128 := Tryd.func117.trans (congrArg some (by kernel_rfl))
  f129 := Tryd.func118.trans (congrArg some (by kernel_rfl))
  f189 := Tryd.func83.trans (congrArg some (by kernel_rfl))
  f215 := Tryd.func129.trans (congrArg some (by kernel_rfl))
  f216 := Tryd.func114.trans (congrArg some (by kernel_rfl))
  f257 := Tryd.func94.trans (congrArg some (by kernel_rfl))
  f294 := Tryd.func108.trans (congrArg some (by kernel_rfl))
  f295 := Tryd.func109.trans (congrArg some (by kernel_rfl))
  f296 := Tryd.func110.trans (congrArg some (by kernel_rfl))
  f297 := Tryd.func111.trans (congrArg some (by kernel_rfl))
  f298 := Tryd.func112.trans (congrArg some (by kernel_rfl))
  f299 := Tryd.func113.trans (congrArg some (by kernel_rfl))
  f300 := Tryd.func115.trans (congrArg some (by kernel_rfl))
  f301 := Tryd.func116.trans (congrArg some (by kernel_rfl))
  f328 := Tryd.func124.trans (congrArg some (by kernel_rfl))
  f329 := Tryd.func125.trans (congrArg some (by kernel_rfl))
  f330 := Tryd.func126.trans (congrArg some (by kernel_rfl))
  f331 := Tryd.func127.trans (congrArg some (by kernel_rfl))
  f332 := Tryd.func128.trans (congrArg some (by kernel_rfl))
  f343 := Tryd.func133.trans (congrArg some (by kernel_rfl))
  t0 := Tryd.underlying0
  a0 := Tryd.isAgg0
  z0 := Tryd.sizeOf0
  v0 := Tryd.zeroValue0
  t3 := Tryd.underlying3
  a3 := Tryd.isAgg3
  z3 := Tryd.sizeOf3
  v3 := Tryd.zeroValue3
  t4 := Tryd.underlying4
  a4 := Tryd.isAgg4
  z4 := Tryd.sizeOf4
  v4 := Tryd.zeroValue4
  t5 := Tryd.underlying5
  a5 := Tryd.isAgg5
  z5 := Tryd.sizeOf5
  v5 := Tryd.zeroValue5
  t9 := Tryd.underlying9
  a9 := Tryd.isAgg9
  z9 := Tryd.sizeOf9
  v9 := Tryd.zeroValue9
  t28 := Tryd.underlying22
  a28 := Tryd.isAgg22
  z28 := Tryd.sizeOf22
  v28 := Tryd.zeroValue22
  t46 := Tryd.underlying104
  a46 := Tryd.isAgg104
  z46 := Tryd.sizeOf104
  v46 := Tryd.zeroValue104
  t51 := Tryd.underlying136
  a51 := Tryd.isAgg136
  z51 := Tryd.sizeOf136
  v51 := Tryd.zeroValue136
  t53 := Tryd.underlying78
  a53 := Tryd.isAgg78
  z53 := Tryd.sizeOf78
  v53 := Tryd.zeroValue78
  t131 := Tryd.underlying76
  a131 := Tryd.isAgg76
  z131 := Tryd.sizeOf76
  v131 := Tryd.zeroValue76
  t182 := Tryd.underlying128
  a182 := Tryd.isAgg128
  z182 := Tryd.sizeOf128
  v182 := Tryd.zeroValue128
  t183 := Tryd.underlying129
  a183 := Tryd.isAgg129
  z183 := Tryd.sizeOf129
  v183 := Tryd.zeroValue129
  t218 := Tryd.underlying143
  a218 := Tryd.isAgg143
  z218 := Tryd.sizeOf143
  v218 := Tryd.zeroValue143
  t222 := Tryd.underlying147
  a222 := Tryd.isAgg147
  z222 := Tryd.sizeOf147
  v222 := Tryd.zeroValue147
  t228 := Tryd.underlying151
  a228 := Tryd.isAgg151
  z228 := Tryd.sizeOf151
  v228 := Tryd.zeroValue151
  t229 := Tryd.underlying28
  a229 := Tryd.isAgg28
  z229 := Tryd.sizeOf28
  v229 := Tryd.zeroValue28 }
open Go.Sort Go.RowKit in
theorem Tryd.slices_Sort_int (blk off cap : Nat) (zs : List Int) (w : World) (hH : Holds (Value.int .i64) w blk off zs.toArray) (hblk : blk < w.heap.size) (hsz : zs.length < 4611686018427387904) :
    Calls Tryd.prog 83 #[.slice (some ⟨blk, off, none⟩) zs.length cap] w fun e w' =>
      e = .returned (.tuple #[]) ∧ ∃ n os, w' = grow (putRow (Value.int .i64) (Sort.ahead w n) blk off (zs.mergeSort fun x y => decide (x ≤ y)).toArray) os := Any.slices_Sort_int Tryd.lays189 blk off cap zs w hH hblk hsz
open Go.RowKit Go.Sort in
theorem Tryd.slices_Sort_int_none (p : Option Addr) (cap : Nat) (w : World) :
    Calls Tryd.prog 83 #[.slice p 0 cap] w fun e w' => e = .returned (.tuple #[]) ∧ w' = w := Any.slices_Sort_int_none Tryd.lays189 p cap w
def Tryd.laysNm220_ren : Go.Shelf.Ren := ⟨fun | 20 => 84 | n => n, fun | 22 => 22 | 3 => 3 | 4 => 4 | 0 => 0 | n => n, fun | n => n⟩
theorem Tryd.laysNm220 : Go.Proofs.Lays2.n20 Tryd.prog Tryd.laysNm220_ren := {
  mixed := by kernel_rfl
  f20 := Tryd.func84.trans (congrArg some (by kernel_rfl))
  t0 := Tryd.underlying0
  a0 := Tryd.isAgg0
  z0 := Tryd.sizeOf0
  v0 := Tryd.zeroValue0
  t3 := Tryd.underlying3
  a3 := Tryd.isAgg3
  z3 := Tryd.sizeOf3
  v3 := Tryd.zeroValue3
  t4 := Tryd.underlying4
  a4 := Tryd.isAgg4
  z4 := Tryd.sizeOf4
  v4 := Tryd.zeroValue4
  t22 := Tryd.underlying22
  a22 := Tryd.isAgg22
  z22 := Tryd.sizeOf22
  v22 := Tryd.zeroValue22
  i3 := by kernel_rfl }
open Go.RowKit Go.Lib Go.Sort in
theorem Tryd.slices_Compact_int (blk off cap : Nat) (zs : List Int) (w : World) (hH : Holds (Value.int .i64) w blk off zs.toArray) (hsz : zs.length ≤ 9223372036854775807) (hcap : zs.length ≤ cap) :
    Calls Tryd.prog 84 #[.slice (some ⟨blk, off, none⟩) zs.length cap] w fun e w' => e = .returned (.slice (some ⟨blk, off, none⟩) (Lib.compact zs).length cap) ∧ ∃ q, w' = putRow (Value.int .i64) (Sort.ahead w q) blk off (Lib.compact zs ++ List.replicate (zs.length - (Lib.compact zs).length) 0).toArray := Any.slices_Compact_int Tryd.laysNm220 blk off cap zs w hH hsz hcap
open Go.RowKit Go.Lib Go.Sort in
theorem Tryd.slices_Compact_int_empty (a : Option Addr) (cap : Nat) (w : World) :
    Calls Tryd.prog 84 #[.slice a 0 cap] w fun e w' => e = .returned (.slice a 0 cap) ∧ w' = w := Any.slices_Compact_int_empty Tryd.laysNm220 a cap w
end Go.Proofs
