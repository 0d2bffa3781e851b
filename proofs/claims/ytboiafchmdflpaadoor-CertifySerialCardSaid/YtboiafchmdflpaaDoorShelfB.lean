/-
  DERIVED: THE SHELF's CONTRACTS AT THIS DUMP, IN PLAIN WORDS (tools/lay-plain.mjs out of 'YtboiafchmdflpaaDoorShelfLayB.lean', which tools/lay-shelf.mjs wrote): THE SAME DECLARATIONS UNDER THE SAME NAMES: 'import', 'namespace', 'open', 'def', 'theorem' AND NOTHING ELSE: no command of the shelf's: FOR A HAND-IN. Each laying: the table of numbers ('.._ren') and one theorem, a field a fact of the dump's own or the kernel's comparison; each contract: ONE APPLICATION.
-/
import Derived.Shelf.Sort.Plain
import Derived.Shelf.Slices.CompactI
import Derived.Shelf.Slices.In.SortNone
import Derived.Test.YtboiafchmdflpaaDoorProg
namespace Go.Proofs
open Go.Shelf
def Tryd.lays189_ren : Go.Shelf.Ren := ⟨fun | 189 => 97 | 125 => 95 | 257 => 124 | 128 => 121 | 129 => 122 | 294 => 137 | 295 => 138 | 296 => 139 | 297 => 140 | 298 => 141 | 299 => 142 | 216 => 143 | 300 => 144 | 301 => 145 | 328 => 150 | 329 => 132 | 330 => 133 | 331 => 151 | 332 => 152 | 215 => 153 | 343 => 158 | n => n, fun | 28 => 130 | 3 => 3 | 46 => 146 | 0 => 0 | 51 => 182 | 53 => 23 | 4 => 4 | 183 => 174 | 182 => 173 | 131 => 179 | 5 => 5 | 9 => 9 | 218 => 192 | 222 => 195 | 228 => 204 | 229 => 205 | n => n, fun | n => n⟩
theorem Tryd.lays189 : Go.Proofs.Lays.n189 Tryd.prog Tryd.lays189_ren := {
  mixed := by kernel_rfl
  f125 := Tryd.func95.trans (congrArg some (by kernel_rfl))
  f128 := Tryd.func121.trans (congrArg some (by kernel_rfl))
  f129 := Tryd.func122.trans (congrArg some (by kernel_rfl))
  f189 := Tryd.func97.trans (congrArg some (by kernel_rfl))
  f215 := Tryd.func153.trans (congrArg some (by kernel_rfl))
  f216 := Tryd.func143.trans (congrArg some (by kernel_rfl))
  f257 := Tryd.func124.trans (congrArg some (by kernel_rfl))
  f294 := Tryd.func137.trans (congrArg some (by kernel_rfl))
  f295 := Tryd.func138.trans (congrArg some (by kernel_rfl))
  f296 := Tryd.func139.trans (congrArg some (by kernel_rfl))
  f297 := Tryd.func140.trans (congrArg some (by kernel_rfl))
  f298 := Tryd.func141.trans (congrArg some (by kernel_rfl))
  f299 := Tryd.func142.trans (congrArg some (by kernel_rfl))
  f300 := Tryd.func144.trans (congrArg some (by kernel_rfl))
  f301 := Tryd.func145.trans (congrArg some (by kernel_rfl))
  f328 := Tryd.func150.trans (congrArg some (by kernel_rfl))
  f329 := Tryd.func132.trans (congrArg some (by kernel_rfl))
  f330 := Tryd.func133.trans (congrArg some (by kernel_rfl))
  f331 := Tryd.func151.trans (congrArg some (by kernel_rfl))
  f332 := Tryd.func152.trans (congrArg some (by kernel_rfl))
  f343 := Tryd.func158.trans (congrArg some (by kernel_rfl))
  t0 := Tryd.underlying0
  a0 := Tryd.isAgg0
  z0 := Tryd.sizeOf0
  v0 := Tryd.zeroValue0
  t3 := Tryd.underlying3
  a3 := Tryd.isAgg3
  z3 := Tryd.sizeOf3
  v3 := Tryd.zeroValue3
  t4 := Tryd.underlying4
  a4 := Tryd.isAgg4
  z4 := Tryd.sizeOf4
  v4 := Tryd.zeroValue4
  t5 := Tryd.underlying5
  a5 := Tryd.isAgg5
  z5 := Tryd.sizeOf5
  v5 := Tryd.zeroValue5
  t9 := Tryd.underlying9
  a9 := Tryd.isAgg9
  z9 := Tryd.sizeOf9
  v9 := Tryd.zeroValue9
  t28 := Tryd.underlying130
  a28 := Tryd.isAgg130
  z28 := Tryd.sizeOf130
  v28 := Tryd.zeroValue130
  t46 := Tryd.underlying146
  a46 := Tryd.isAgg146
  z46 := Tryd.sizeOf146
  v46 := Tryd.zeroValue146
  t51 := Tryd.underlying182
  a51 := Tryd.isAgg182
  z51 := Tryd.sizeOf182
  v51 := Tryd.zeroValue182
  t53 := Tryd.underlying23
  a53 := Tryd.isAgg23
  z53 := Tryd.sizeOf23
  v53 := Tryd.zeroValue23
  t131 := Tryd.underlying179
  a131 := Tryd.isAgg179
  z131 := Tryd.sizeOf179
  v131 := Tryd.zeroValue179
  t182 := Tryd.underlying173
  a182 := Tryd.isAgg173
  z182 := Tryd.sizeOf173
  v182 := Tryd.zeroValue173
  t183 := Tryd.underlying174
  a183 := Tryd.isAgg174
  z183 := Tryd.sizeOf174
  v183 := Tryd.zeroValue174
  t218 := Tryd.underlying192
  a218 := Tryd.isAgg192
  z218 := Tryd.sizeOf192
  v218 := Tryd.zeroValue192
  t222 := Tryd.underlying195
  a222 := Tryd.isAgg195
  z222 := Tryd.sizeOf195
  v222 := Tryd.zeroValue195
  t228 := Tryd.underlying204
  a228 := Tryd.isAgg204
  z228 := Tryd.sizeOf204
  v228 := Tryd.zeroValue204
  t229 := Tryd.underlying205
  a229 := Tryd.isAgg205
  z229 := Tryd.sizeOf205
  v229 := Tryd.zeroValue205 }
open Go.Sort Go.RowKit in
theorem Tryd.slices_Sort_int (blk off cap : Nat) (zs : List Int) (w : World) (hH : Holds (Value.int .i64) w blk off zs.toArray) (hblk : blk < w.heap.size) (hsz : zs.length < 4611686018427387904) :
    Calls Tryd.prog 97 #[.slice (some ⟨blk, off, none⟩) zs.length cap] w fun e w' =>
      e = .returned (.tuple #[]) ∧ ∃ n os, w' = grow (putRow (Value.int .i64) (Sort.ahead w n) blk off (zs.mergeSort fun x y => decide (x ≤ y)).toArray) os := Any.slices_Sort_int Tryd.lays189 blk off cap zs w hH hblk hsz
open Go.RowKit Go.Sort in
theorem Tryd.slices_Sort_int_none (p : Option Addr) (cap : Nat) (w : World) :
    Calls Tryd.prog 97 #[.slice p 0 cap] w fun e w' => e = .returned (.tuple #[]) ∧ w' = w := Any.slices_Sort_int_none Tryd.lays189 p cap w
def Tryd.laysNm220_ren : Go.Shelf.Ren := ⟨fun | 20 => 80 | n => n, fun | 22 => 130 | 3 => 3 | 4 => 4 | 0 => 0 | n => n, fun | n => n⟩
theorem Tryd.laysNm220 : Go.Proofs.Lays2.n20 Tryd.prog Tryd.laysNm220_ren := {
  mixed := by kernel_rfl
  f20 := Tryd.func80.trans (congrArg some (by kernel_rfl))
  t0 := Tryd.underlying0
  a0 := Tryd.isAgg0
  z0 := Tryd.sizeOf0
  v0 := Tryd.zeroValue0
  t3 := Tryd.underlying3
  a3 := Tryd.isAgg3
  z3 := Tryd.sizeOf3
  v3 := Tryd.zeroValue3
  t4 := Tryd.underlying4
  a4 := Tryd.isAgg4
  z4 := Tryd.sizeOf4
  v4 := Tryd.zeroValue4
  t22 := Tryd.underlying130
  a22 := Tryd.isAgg130
  z22 := Tryd.sizeOf130
  v22 := Tryd.zeroValue130
  i3 := by kernel_rfl }
open Go.RowKit Go.Lib Go.Sort in
theorem Tryd.slices_Compact_int (blk off cap : Nat) (zs : List Int) (w : World) (hH : Holds (Value.int .i64) w blk off zs.toArray) (hsz : zs.length ≤ 9223372036854775807) (hcap : zs.length ≤ cap) :
    Calls Tryd.prog 80 #[.slice (some ⟨blk, off, none⟩) zs.length cap] w fun e w' => e = .returned (.slice (some ⟨blk, off, none⟩) (Lib.compact zs).length cap) ∧ ∃ q, w' = putRow (Value.int .i64) (Sort.ahead w q) blk off (Lib.compact zs ++ List.replicate (zs.length - (Lib.compact zs).length) 0).toArray := Any.slices_Compact_int Tryd.laysNm220 blk off cap zs w hH hsz hcap
open Go.RowKit Go.Lib Go.Sort in
theorem Tryd.slices_Compact_int_empty (a : Option Addr) (cap : Nat) (w : World) :
    Calls Tryd.prog 80 #[.slice a 0 cap] w fun e w' => e = .returned (.slice a 0 cap) ∧ w' = w := Any.slices_Compact_int_empty Tryd.laysNm220 a cap w
end Go.Proofs
