/-
  DERIVED: THE SHELF's CONTRACTS AT THIS DUMP, IN PLAIN WORDS (tools/lay-plain.mjs out of 'YtcldpmkhpmlcbaaGreatDoorShelfLayB.lean', which tools/lay-shelf.mjs wrote): THE SAME DECLARATIONS UNDER THE SAME NAMES: 'import', 'namespace', 'open', 'def', 'theorem' AND NOTHING ELSE: no command of the shelf's: FOR A HAND-IN. Each laying: the table of numbers ('.._ren') and one theorem, a field a fact of the dump's own or the kernel's comparison; each contract: ONE APPLICATION.
-/
import Derived.Shelf.Sort.Plain
import Derived.Shelf.Slices.CompactI
import Derived.Shelf.Slices.In.SortNone
import Derived.Test.YtcldpmkhpmlcbaaGreatDoorProg
namespace Go.Proofs
open Go.Shelf
def Tryz.lays189_ren : Go.Shelf.Ren := ⟨fun | 189 => 183 | 125 => 205 | 257 => 204 | 128 => 222 | 129 => 223 | 294 => 213 | 295 => 214 | 296 => 215 | 297 => 216 | 298 => 217 | 299 => 218 | 216 => 219 | 300 => 220 | 301 => 221 | 328 => 237 | 329 => 238 | 330 => 239 | 331 => 240 | 332 => 241 | 215 => 242 | 343 => 247 | n => n, fun | 28 => 22 | 3 => 3 | 46 => 211 | 0 => 0 | 51 => 306 | 53 => 39 | 4 => 4 | 183 => 299 | 182 => 298 | 131 => 192 | 5 => 5 | 9 => 9 | 218 => 316 | 222 => 319 | 228 => 323 | 229 => 324 | n => n, fun | n => n⟩
theorem Tryz.lays189 : Go.Proofs.Lays.n189 Tryz.prog Tryz.lays189_ren := {
  mixed := by kernel_rfl
  f125 := Tryz.func205.trans (congrArg some (by kernel_rfl))
  f128 := Tryz.func222.trans (congrArg some (by kernel_rfl))
  f129 := Tryz.func223.trans (congrArg some (by kernel_rfl))
  f189 := Tryz.func183.trans (congrArg some (by kernel_rfl))
  f215 := Tryz.func242.trans (congrArg some (by kernel_rfl))
  f216 := Tryz.func219.trans (congrArg some (by kernel_rfl))
  f257 := Tryz.func204.trans (congrArg some (by kernel_rfl))
  f294 := Tryz.func213.trans (congrArg some (by kernel_rfl))
  f295 := Tryz.func214.trans (congrArg some (by kernel_rfl))
  f296 := Tryz.func215.trans (congrArg some (by kernel_rfl))
  f297 := Tryz.func216.trans (congrArg some (by kernel_rfl))
  f298 := Tryz.func217.trans (congrArg some (by kernel_rfl))
  f299 := Tryz.func218.trans (congrArg some (by kernel_rfl))
  f300 := Tryz.func220.trans (congrArg some (by kernel_rfl))
  f301 := Tryz.func221.trans (congrArg some (by kernel_rfl))
  f328 := Tryz.func237.trans (congrArg some (by kernel_rfl))
  f329 := Tryz.func238.trans (congrArg some (by kernel_rfl))
  f330 := Tryz.func239.trans (congrArg some (by kernel_rfl))
  f331 := Tryz.func240.trans (congrArg some (by kernel_rfl))
  f332 := Tryz.func241.trans (congrArg some (by kernel_rfl))
  f343 := Tryz.func247.trans (congrArg some (by kernel_rfl))
  t0 := Tryz.underlying0
  a0 := Tryz.isAgg0
  z0 := Tryz.sizeOf0
  v0 := Tryz.zeroValue0
  t3 := Tryz.underlying3
  a3 := Tryz.isAgg3
  z3 := Tryz.sizeOf3
  v3 := Tryz.zeroValue3
  t4 := Tryz.underlying4
  a4 := Tryz.isAgg4
  z4 := Tryz.sizeOf4
  v4 := Tryz.zeroValue4
  t5 := Tryz.underlying5
  a5 := Tryz.isAgg5
  z5 := Tryz.sizeOf5
  v5 := Tryz.zeroValue5
  t9 := Tryz.underlying9
  a9 := Tryz.isAgg9
  z9 := Tryz.sizeOf9
  v9 := Tryz.zeroValue9
  t28 := Tryz.underlying22
  a28 := Tryz.isAgg22
  z28 := Tryz.sizeOf22
  v28 := Tryz.zeroValue22
  t46 := Tryz.underlying211
  a46 := Tryz.isAgg211
  z46 := Tryz.sizeOf211
  v46 := Tryz.zeroValue211
  t51 := Tryz.underlying306
  a51 := Tryz.isAgg306
  z51 := Tryz.sizeOf306
  v51 := Tryz.zeroValue306
  t53 := Tryz.underlying39
  a53 := Tryz.isAgg39
  z53 := Tryz.sizeOf39
  v53 := Tryz.zeroValue39
  t131 := Tryz.underlying192
  a131 := Tryz.isAgg192
  z131 := Tryz.sizeOf192
  v131 := Tryz.zeroValue192
  t182 := Tryz.underlying298
  a182 := Tryz.isAgg298
  z182 := Tryz.sizeOf298
  v182 := Tryz.zeroValue298
  t183 := Tryz.underlying299
  a183 := Tryz.isAgg299
  z183 := Tryz.sizeOf299
  v183 := Tryz.zeroValue299
  t218 := Tryz.underlying316
  a218 := Tryz.isAgg316
  z218 := Tryz.sizeOf316
  v218 := Tryz.zeroValue316
  t222 := Tryz.underlying319
  a222 := Tryz.isAgg319
  z222 := Tryz.sizeOf319
  v222 := Tryz.zeroValue319
  t228 := Tryz.underlying323
  a228 := Tryz.isAgg323
  z228 := Tryz.sizeOf323
  v228 := Tryz.zeroValue323
  t229 := Tryz.underlying324
  a229 := Tryz.isAgg324
  z229 := Tryz.sizeOf324
  v229 := Tryz.zeroValue324 }
open Go.Sort Go.RowKit in
theorem Tryz.slices_Sort_int (blk off cap : Nat) (zs : List Int) (w : World) (hH : Holds (Value.int .i64) w blk off zs.toArray) (hblk : blk < w.heap.size) (hsz : zs.length < 4611686018427387904) :
    Calls Tryz.prog 183 #[.slice (some ⟨blk, off, none⟩) zs.length cap] w fun e w' =>
      e = .returned (.tuple #[]) ∧ ∃ n os, w' = grow (putRow (Value.int .i64) (Sort.ahead w n) blk off (zs.mergeSort fun x y => decide (x ≤ y)).toArray) os := Any.slices_Sort_int Tryz.lays189 blk off cap zs w hH hblk hsz
open Go.RowKit Go.Sort in
theorem Tryz.slices_Sort_int_none (p : Option Addr) (cap : Nat) (w : World) :
    Calls Tryz.prog 183 #[.slice p 0 cap] w fun e w' => e = .returned (.tuple #[]) ∧ w' = w := Any.slices_Sort_int_none Tryz.lays189 p cap w
def Tryz.laysNm220_ren : Go.Shelf.Ren := ⟨fun | 20 => 149 | n => n, fun | 22 => 22 | 3 => 3 | 4 => 4 | 0 => 0 | n => n, fun | n => n⟩
theorem Tryz.laysNm220 : Go.Proofs.Lays2.n20 Tryz.prog Tryz.laysNm220_ren := {
  mixed := by kernel_rfl
  f20 := Tryz.func149.trans (congrArg some (by kernel_rfl))
  t0 := Tryz.underlying0
  a0 := Tryz.isAgg0
  z0 := Tryz.sizeOf0
  v0 := Tryz.zeroValue0
  t3 := Tryz.underlying3
  a3 := Tryz.isAgg3
  z3 := Tryz.sizeOf3
  v3 := Tryz.zeroValue3
  t4 := Tryz.underlying4
  a4 := Tryz.isAgg4
  z4 := Tryz.sizeOf4
  v4 := Tryz.zeroValue4
  t22 := Tryz.underlying22
  a22 := Tryz.isAgg22
  z22 := Tryz.sizeOf22
  v22 := Tryz.zeroValue22
  i3 := by kernel_rfl }
open Go.RowKit Go.Lib Go.Sort in
theorem Tryz.slices_Compact_int (blk off cap : Nat) (zs : List Int) (w : World) (hH : Holds (Value.int .i64) w blk off zs.toArray) (hsz : zs.length ≤ 9223372036854775807) (hcap : zs.length ≤ cap) :
    Calls Tryz.prog 149 #[.slice (some ⟨blk, off, none⟩) zs.length cap] w fun e w' => e = .returned (.slice (some ⟨blk, off, none⟩) (Lib.compact zs).length cap) ∧ ∃ q, w' = putRow (Value.int .i64) (Sort.ahead w q) blk off (Lib.compact zs ++ List.replicate (zs.length - (Lib.compact zs).length) 0).toArray := Any.slices_Compact_int Tryz.laysNm220 blk off cap zs w hH hsz hcap
open Go.RowKit Go.Lib Go.Sort in
theorem Tryz.slices_Compact_int_empty (a : Option Addr) (cap : Nat) (w : World) :
    Calls Tryz.prog 149 #[.slice a 0 cap] w fun e w' => e = .returned (.slice a 0 cap) ∧ w' = w := Any.slices_Compact_int_empty Tryz.laysNm220 a cap w
end Go.Proofs
