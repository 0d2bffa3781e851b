/-
  DERIVED: THE SHELF's CONTRACTS AT THIS DUMP, IN PLAIN WORDS (tools/lay-plain.mjs out of 'YtfblemdpimbciaaDoorShelfLay.lean', which tools/lay-shelf.mjs wrote): THE SAME DECLARATIONS UNDER THE SAME NAMES: 'import', 'namespace', 'open', 'def', 'theorem' AND NOTHING ELSE: no command of the shelf's: FOR A HAND-IN. Each laying: the table of numbers ('.._ren') and one theorem, a field a fact of the dump's own or the kernel's comparison; each contract: ONE APPLICATION.
-/
import Derived.Shelf.Strings.SlTrimAscii
import Derived.Shelf.Unicode.ValidAny
import Derived.Test.YtfblemdpimbciaaDoorProg
namespace Go.Proofs
open Go.Shelf
def Tryd.lays160_ren : Go.Shelf.Ren := ⟨fun | 160 => 70 | 232 => 82 | 231 => 81 | 227 => 83 | 234 => 85 | 233 => 84 | 236 => 87 | 235 => 86 | 228 => 93 | 271 => 96 | 151 => 95 | 197 => 94 | 120 => 112 | 152 => 111 | 260 => 110 | 137 => 119 | 119 => 120 | 224 => 121 | 225 => 122 | 217 => 124 | 266 => 125 | n => n, fun | 9 => 9 | 4 => 4 | 3 => 3 | 5 => 5 | 117 => 125 | 116 => 124 | 0 => 0 | 124 => 128 | 21 => 21 | 105 => 134 | 46 => 107 | 119 => 116 | 139 => 119 | 138 => 118 | n => n, fun | 3 => 0 | 4 => 1 | n => n⟩
theorem Tryd.lays160 : Go.Proofs.Lays.n160 Tryd.prog Tryd.lays160_ren := {
  mixed := by kernel_rfl
  f119 := Tryd.func120.trans (congrArg some (by kernel_rfl))
  f120 := Tryd.func112.trans (congrArg some (by kernel_rfl))
  f137 := Tryd.func119.trans (congrArg some (by kernel_rfl))
  f151 := Tryd.func95.trans (congrArg some (by kernel_rfl))
  f152 := Tryd.func111.trans (congrArg some (by kernel_rfl))
  f160 := Tryd.func70.trans (congrArg some (by kernel_rfl))
  f197 := Tryd.func94.trans (congrArg some (by kernel_rfl))
  f217 := Tryd.func124.trans (congrArg some (by kernel_rfl))
  f224 := Tryd.func121.trans (congrArg some (by kernel_rfl))
  f225 := Tryd.func122.trans (congrArg some (by kernel_rfl))
  f227 := Tryd.func83.trans (congrArg some (by kernel_rfl))
  f228 := Tryd.func93.trans (congrArg some (by kernel_rfl))
  f231 := Tryd.func81.trans (congrArg some (by kernel_rfl))
  f232 := Tryd.func82.trans (congrArg some (by kernel_rfl))
  f233 := Tryd.func84.trans (congrArg some (by kernel_rfl))
  f234 := Tryd.func85.trans (congrArg some (by kernel_rfl))
  f235 := Tryd.func86.trans (congrArg some (by kernel_rfl))
  f236 := Tryd.func87.trans (congrArg some (by kernel_rfl))
  f260 := Tryd.func110.trans (congrArg some (by kernel_rfl))
  f266 := Tryd.func125.trans (congrArg some (by kernel_rfl))
  f271 := Tryd.func96.trans (congrArg some (by kernel_rfl))
  t0 := Tryd.underlying0
  a0 := Tryd.isAgg0
  z0 := Tryd.sizeOf0
  v0 := Tryd.zeroValue0
  t3 := Tryd.underlying3
  a3 := Tryd.isAgg3
  z3 := Tryd.sizeOf3
  v3 := Tryd.zeroValue3
  t4 := Tryd.underlying4
  a4 := Tryd.isAgg4
  z4 := Tryd.sizeOf4
  v4 := Tryd.zeroValue4
  t5 := Tryd.underlying5
  a5 := Tryd.isAgg5
  z5 := Tryd.sizeOf5
  v5 := Tryd.zeroValue5
  t9 := Tryd.underlying9
  a9 := Tryd.isAgg9
  z9 := Tryd.sizeOf9
  v9 := Tryd.zeroValue9
  t21 := Tryd.underlying21
  a21 := Tryd.isAgg21
  z21 := Tryd.sizeOf21
  v21 := Tryd.zeroValue21
  t46 := Tryd.underlying107
  a46 := Tryd.isAgg107
  z46 := Tryd.sizeOf107
  v46 := Tryd.zeroValue107
  t105 := Tryd.underlying134
  a105 := Tryd.isAgg134
  z105 := Tryd.sizeOf134
  v105 := Tryd.zeroValue134
  t116 := Tryd.underlying124
  a116 := Tryd.isAgg124
  z116 := Tryd.sizeOf124
  t117 := Tryd.underlying125
  a117 := Tryd.isAgg125
  z117 := Tryd.sizeOf125
  v117 := Tryd.zeroValue125
  t119 := Tryd.underlying116
  a119 := Tryd.isAgg116
  z119 := Tryd.sizeOf116
  t124 := Tryd.underlying128
  a124 := Tryd.isAgg128
  z124 := Tryd.sizeOf128
  v124 := Tryd.zeroValue128
  t138 := Tryd.underlying118
  a138 := Tryd.isAgg118
  z138 := Tryd.sizeOf118
  v138 := Tryd.zeroValue118
  t139 := Tryd.underlying119
  a139 := Tryd.isAgg119
  z139 := Tryd.sizeOf119
  v139 := Tryd.zeroValue119
  g3 := by kernel_rfl
  g4 := by kernel_rfl }
open Go.RowKit in
theorem Tryd.strings_Trim_laid (s cutset : ByteArray) (w : World) (hs : s.size ≤ 9223372036854775807) (hcs : cutset.size < 4294967281) (hascii : ∀ (j : Nat) b, cutset.data.toList[j]? = some b → b.toNat < 128) :
    Calls Tryd.prog 70 #[.string s, .string cutset] w fun e w' => e = .returned (.string ⟨(Lib.trimS s.data.toList cutset.data.toList).toArray⟩) ∧ Below w.heap.size w w' := Any.strings_Trim_laid Tryd.lays160 (by kernel_rfl) s cutset w hs hcs hascii
def Tryd.lays196_ren : Go.Shelf.Ren := ⟨fun | 196 => 65 | 259 => 76 | n => n, fun | 9 => 9 | 4 => 4 | 3 => 3 | 5 => 5 | 12 => 12 | 119 => 116 | 0 => 0 | 46 => 107 | 139 => 119 | 138 => 118 | 53 => 58 | n => n, fun | 3 => 0 | 4 => 1 | n => n⟩
theorem Tryd.lays196 : Go.Proofs.Lays.n196 Tryd.prog Tryd.lays196_ren := {
  mixed := by kernel_rfl
  f196 := Tryd.func65.trans (congrArg some (by kernel_rfl))
  f259 := Tryd.func76.trans (congrArg some (by kernel_rfl))
  t0 := Tryd.underlying0
  a0 := Tryd.isAgg0
  z0 := Tryd.sizeOf0
  v0 := Tryd.zeroValue0
  t3 := Tryd.underlying3
  a3 := Tryd.isAgg3
  z3 := Tryd.sizeOf3
  v3 := Tryd.zeroValue3
  t4 := Tryd.underlying4
  a4 := Tryd.isAgg4
  z4 := Tryd.sizeOf4
  v4 := Tryd.zeroValue4
  t5 := Tryd.underlying5
  a5 := Tryd.isAgg5
  z5 := Tryd.sizeOf5
  v5 := Tryd.zeroValue5
  t9 := Tryd.underlying9
  a9 := Tryd.isAgg9
  z9 := Tryd.sizeOf9
  v9 := Tryd.zeroValue9
  t12 := Tryd.underlying12
  a12 := Tryd.isAgg12
  z12 := Tryd.sizeOf12
  v12 := Tryd.zeroValue12
  t46 := Tryd.underlying107
  a46 := Tryd.isAgg107
  z46 := Tryd.sizeOf107
  v46 := Tryd.zeroValue107
  t53 := Tryd.underlying58
  a53 := Tryd.isAgg58
  z53 := Tryd.sizeOf58
  v53 := Tryd.zeroValue58
  t119 := Tryd.underlying116
  a119 := Tryd.isAgg116
  z119 := Tryd.sizeOf116
  t138 := Tryd.underlying118
  a138 := Tryd.isAgg118
  z138 := Tryd.sizeOf118
  v138 := Tryd.zeroValue118
  t139 := Tryd.underlying119
  a139 := Tryd.isAgg119
  z139 := Tryd.sizeOf119
  v139 := Tryd.zeroValue119
  g3 := by kernel_rfl
  g4 := by kernel_rfl }
open Go.RowKit in
theorem Tryd.utf8_ValidString (s : ByteArray) (w : World) (hs : s.size ≤ 9223372036854775807) (hT : Lib.Utf8Tabs 0 1 w) :
    Calls Tryd.prog 65 #[.string s] w fun e w' => e = .returned (.bool (Lib.validD s.data.toList)) ∧ Below w.heap.size w w' := Any.utf8_ValidString Tryd.lays196 s w hs hT
end Go.Proofs
