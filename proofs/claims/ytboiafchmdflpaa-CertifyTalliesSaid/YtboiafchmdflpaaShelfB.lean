/-
  DERIVED: THE SHELF's CONTRACTS AT THIS DUMP, IN PLAIN WORDS (tools/lay-plain.mjs out of 'YtboiafchmdflpaaShelfLayB.lean', which tools/lay-shelf.mjs wrote): THE SAME DECLARATIONS UNDER THE SAME NAMES: 'import', 'namespace', 'open', 'def', 'theorem' AND NOTHING ELSE: no command of the shelf's: FOR A HAND-IN. Each laying: the table of numbers ('.._ren') and one theorem, a field a fact of the dump's own or the kernel's comparison; each contract: ONE APPLICATION.
-/
import Derived.Shelf.Sort.Plain
import Derived.Shelf.Slices.CompactI
import Derived.Shelf.Slices.In.SortNone
import Derived.Test.YtboiafchmdflpaaProg
namespace Go.Proofs
open Go.Shelf
def Try.lays189_ren : Go.Shelf.Ren := ⟨fun | 189 => 28 | 125 => 35 | 257 => 34 | 128 => 45 | 129 => 46 | 294 => 36 | 295 => 37 | 296 => 38 | 297 => 39 | 298 => 40 | 299 => 41 | 216 => 42 | 300 => 43 | 301 => 44 | 328 => 47 | 329 => 48 | 330 => 49 | 331 => 50 | 332 => 51 | 215 => 52 | 343 => 53 | n => n, fun | 28 => 25 | 3 => 3 | 46 => 79 | 0 => 0 | 51 => 91 | 53 => 56 | 4 => 4 | 183 => 83 | 182 => 82 | 131 => 88 | 5 => 5 | 9 => 9 | 218 => 93 | 222 => 96 | 228 => 98 | 229 => 99 | n => n, fun | n => n⟩
theorem Try.lays189 : Go.Proofs.Lays.n189 Try.prog Try.lays189_ren := {
  mixed := by kernel_rfl
  f125 := Try.func35.trans (congrArg some (by kernel_rfl))
  f128 := Try.func45.trans (congrArg some (by kernel_rfl))
  f129 := Try.func46.trans (congrArg some (by kernel_rfl))
  f189 := Try.func28.trans (congrArg some (by kernel_rfl))
  f215 := Try.func52.trans (congrArg some (by kernel_rfl))
  f216 := Try.func42.trans (congrArg some (by kernel_rfl))
  f257 := Try.func34.trans (congrArg some (by kernel_rfl))
  f294 := Try.func36.trans (congrArg some (by kernel_rfl))
  f295 := Try.func37.trans (congrArg some (by kernel_rfl))
  f296 := Try.func38.trans (congrArg some (by kernel_rfl))
  f297 := Try.func39.trans (congrArg some (by kernel_rfl))
  f298 := Try.func40.trans (congrArg some (by kernel_rfl))
  f299 := Try.func41.trans (congrArg some (by kernel_rfl))
  f300 := Try.func43.trans (congrArg some (by kernel_rfl))
  f301 := Try.func44.trans (congrArg some (by kernel_rfl))
  f328 := Try.func47.trans (congrArg some (by kernel_rfl))
  f329 := Try.func48.trans (congrArg some (by kernel_rfl))
  f330 := Try.func49.trans (congrArg some (by kernel_rfl))
  f331 := Try.func50.trans (congrArg some (by kernel_rfl))
  f332 := Try.func51.trans (congrArg some (by kernel_rfl))
  f343 := Try.func53.trans (congrArg some (by kernel_rfl))
  t0 := Try.underlying0
  a0 := Try.isAgg0
  z0 := Try.sizeOf0
  v0 := Try.zeroValue0
  t3 := Try.underlying3
  a3 := Try.isAgg3
  z3 := Try.sizeOf3
  v3 := Try.zeroValue3
  t4 := Try.underlying4
  a4 := Try.isAgg4
  z4 := Try.sizeOf4
  v4 := Try.zeroValue4
  t5 := Try.underlying5
  a5 := Try.isAgg5
  z5 := Try.sizeOf5
  v5 := Try.zeroValue5
  t9 := Try.underlying9
  a9 := Try.isAgg9
  z9 := Try.sizeOf9
  v9 := Try.zeroValue9
  t28 := Try.underlying25
  a28 := Try.isAgg25
  z28 := Try.sizeOf25
  v28 := Try.zeroValue25
  t46 := Try.underlying79
  a46 := Try.isAgg79
  z46 := Try.sizeOf79
  v46 := Try.zeroValue79
  t51 := Try.underlying91
  a51 := Try.isAgg91
  z51 := Try.sizeOf91
  v51 := Try.zeroValue91
  t53 := Try.underlying56
  a53 := Try.isAgg56
  z53 := Try.sizeOf56
  v53 := Try.zeroValue56
  t131 := Try.underlying88
  a131 := Try.isAgg88
  z131 := Try.sizeOf88
  v131 := Try.zeroValue88
  t182 := Try.underlying82
  a182 := Try.isAgg82
  z182 := Try.sizeOf82
  v182 := Try.zeroValue82
  t183 := Try.underlying83
  a183 := Try.isAgg83
  z183 := Try.sizeOf83
  v183 := Try.zeroValue83
  t218 := Try.underlying93
  a218 := Try.isAgg93
  z218 := Try.sizeOf93
  v218 := Try.zeroValue93
  t222 := Try.underlying96
  a222 := Try.isAgg96
  z222 := Try.sizeOf96
  v222 := Try.zeroValue96
  t228 := Try.underlying98
  a228 := Try.isAgg98
  z228 := Try.sizeOf98
  v228 := Try.zeroValue98
  t229 := Try.underlying99
  a229 := Try.isAgg99
  z229 := Try.sizeOf99
  v229 := Try.zeroValue99 }
open Go.Sort Go.RowKit in
theorem Try.slices_Sort_int (blk off cap : Nat) (zs : List Int) (w : World) (hH : Holds (Value.int .i64) w blk off zs.toArray) (hblk : blk < w.heap.size) (hsz : zs.length < 4611686018427387904) :
    Calls Try.prog 28 #[.slice (some ⟨blk, off, none⟩) zs.length cap] w fun e w' =>
      e = .returned (.tuple #[]) ∧ ∃ n os, w' = grow (putRow (Value.int .i64) (Sort.ahead w n) blk off (zs.mergeSort fun x y => decide (x ≤ y)).toArray) os := Any.slices_Sort_int Try.lays189 blk off cap zs w hH hblk hsz
open Go.RowKit Go.Sort in
theorem Try.slices_Sort_int_none (p : Option Addr) (cap : Nat) (w : World) :
    Calls Try.prog 28 #[.slice p 0 cap] w fun e w' => e = .returned (.tuple #[]) ∧ w' = w := Any.slices_Sort_int_none Try.lays189 p cap w
def Try.laysNm220_ren : Go.Shelf.Ren := ⟨fun | 20 => 19 | n => n, fun | 22 => 25 | 3 => 3 | 4 => 4 | 0 => 0 | n => n, fun | n => n⟩
theorem Try.laysNm220 : Go.Proofs.Lays2.n20 Try.prog Try.laysNm220_ren := {
  mixed := by kernel_rfl
  f20 := Try.func19.trans (congrArg some (by kernel_rfl))
  t0 := Try.underlying0
  a0 := Try.isAgg0
  z0 := Try.sizeOf0
  v0 := Try.zeroValue0
  t3 := Try.underlying3
  a3 := Try.isAgg3
  z3 := Try.sizeOf3
  v3 := Try.zeroValue3
  t4 := Try.underlying4
  a4 := Try.isAgg4
  z4 := Try.sizeOf4
  v4 := Try.zeroValue4
  t22 := Try.underlying25
  a22 := Try.isAgg25
  z22 := Try.sizeOf25
  v22 := Try.zeroValue25
  i3 := by kernel_rfl }
open Go.RowKit Go.Lib Go.Sort in
theorem Try.slices_Compact_int (blk off cap : Nat) (zs : List Int) (w : World) (hH : Holds (Value.int .i64) w blk off zs.toArray) (hsz : zs.length ≤ 9223372036854775807) (hcap : zs.length ≤ cap) :
    Calls Try.prog 19 #[.slice (some ⟨blk, off, none⟩) zs.length cap] w fun e w' => e = .returned (.slice (some ⟨blk, off, none⟩) (Lib.compact zs).length cap) ∧ ∃ q, w' = putRow (Value.int .i64) (Sort.ahead w q) blk off (Lib.compact zs ++ List.replicate (zs.length - (Lib.compact zs).length) 0).toArray := Any.slices_Compact_int Try.laysNm220 blk off cap zs w hH hsz hcap
open Go.RowKit Go.Lib Go.Sort in
theorem Try.slices_Compact_int_empty (a : Option Addr) (cap : Nat) (w : World) :
    Calls Try.prog 19 #[.slice a 0 cap] w fun e w' => e = .returned (.slice a 0 cap) ∧ w' = w := Any.slices_Compact_int_empty Try.laysNm220 a cap w
end Go.Proofs
