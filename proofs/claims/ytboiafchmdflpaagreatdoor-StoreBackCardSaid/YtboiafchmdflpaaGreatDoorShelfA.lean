/-
  DERIVED: THE SHELF's CONTRACTS AT THIS DUMP, IN PLAIN WORDS (tools/lay-plain.mjs out of 'YtboiafchmdflpaaGreatDoorShelfLay.lean', which tools/lay-shelf.mjs wrote): THE SAME DECLARATIONS UNDER THE SAME NAMES: 'import', 'namespace', 'open', 'def', 'theorem' AND NOTHING ELSE: no command of the shelf's: FOR A HAND-IN. Each laying: the table of numbers ('.._ren') and one theorem, a field a fact of the dump's own or the kernel's comparison; each contract: ONE APPLICATION.
-/
import Derived.Shelf.Strings.SlTrimAscii
import Derived.Shelf.Unicode.ValidAny
import Derived.Test.YtboiafchmdflpaaGreatDoorProg
namespace Go.Proofs
open Go.Shelf
def Tryz.lays160_ren : Go.Shelf.Ren := ⟨fun | 160 => 59 | 232 => 71 | 231 => 70 | 227 => 72 | 234 => 74 | 233 => 73 | 236 => 76 | 235 => 75 | 228 => 93 | 271 => 96 | 151 => 95 | 197 => 94 | 120 => 107 | 152 => 106 | 260 => 105 | 137 => 109 | 119 => 110 | 224 => 111 | 225 => 112 | 217 => 113 | 266 => 114 | n => n, fun | 9 => 9 | 4 => 4 | 3 => 3 | 5 => 5 | 117 => 112 | 116 => 111 | 0 => 0 | 124 => 115 | 21 => 21 | 105 => 137 | 46 => 97 | 119 => 120 | 139 => 123 | 138 => 122 | n => n, fun | 3 => 0 | 4 => 1 | n => n⟩
theorem Tryz.lays160 : Go.Proofs.Lays.n160 Tryz.prog Tryz.lays160_ren := {
  mixed := by kernel_rfl
  f119 := Tryz.func110.trans (congrArg some (by kernel_rfl))
  f120 := Tryz.func107.trans (congrArg some (by kernel_rfl))
  f137 := Tryz.func109.trans (congrArg some (by kernel_rfl))
  f151 := Tryz.func95.trans (congrArg some (by kernel_rfl))
  f152 := Tryz.func106.trans (congrArg some (by kernel_rfl))
  f160 := Tryz.func59.trans (congrArg some (by kernel_rfl))
  f197 := Tryz.func94.trans (congrArg some (by kernel_rfl))
  f217 := Tryz.func113.trans (congrArg some (by kernel_rfl))
  f224 := Tryz.func111.trans (congrArg some (by kernel_rfl))
  f225 := Tryz.func112.trans (congrArg some (by kernel_rfl))
  f227 := Tryz.func72.trans (congrArg some (by kernel_rfl))
  f228 := Tryz.func93.trans (congrArg some (by kernel_rfl))
  f231 := Tryz.func70.trans (congrArg some (by kernel_rfl))
  f232 := Tryz.func71.trans (congrArg some (by kernel_rfl))
  f233 := Tryz.func73.trans (congrArg some (by kernel_rfl))
  f234 := Tryz.func74.trans (congrArg some (by kernel_rfl))
  f235 := Tryz.func75.trans (congrArg some (by kernel_rfl))
  f236 := Tryz.func76.trans (congrArg some (by kernel_rfl))
  f260 := Tryz.func105.trans (congrArg some (by kernel_rfl))
  f266 := Tryz.func114.trans (congrArg some (by kernel_rfl))
  f271 := Tryz.func96.trans (congrArg some (by kernel_rfl))
  t0 := Tryz.underlying0
  a0 := Tryz.isAgg0
  z0 := Tryz.sizeOf0
  v0 := Tryz.zeroValue0
  t3 := Tryz.underlying3
  a3 := Tryz.isAgg3
  z3 := Tryz.sizeOf3
  v3 := Tryz.zeroValue3
  t4 := Tryz.underlying4
  a4 := Tryz.isAgg4
  z4 := Tryz.sizeOf4
  v4 := Tryz.zeroValue4
  t5 := Tryz.underlying5
  a5 := Tryz.isAgg5
  z5 := Tryz.sizeOf5
  v5 := Tryz.zeroValue5
  t9 := Tryz.underlying9
  a9 := Tryz.isAgg9
  z9 := Tryz.sizeOf9
  v9 := Tryz.zeroValue9
  t21 := Tryz.underlying21
  a21 := Tryz.isAgg21
  z21 := Tryz.sizeOf21
  v21 := Tryz.zeroValue21
  t46 := Tryz.underlying97
  a46 := Tryz.isAgg97
  z46 := Tryz.sizeOf97
  v46 := Tryz.zeroValue97
  t105 := Tryz.underlying137
  a105 := Tryz.isAgg137
  z105 := Tryz.sizeOf137
  v105 := Tryz.zeroValue137
  t116 := Tryz.underlying111
  a116 := Tryz.isAgg111
  z116 := Tryz.sizeOf111
  t117 := Tryz.underlying112
  a117 := Tryz.isAgg112
  z117 := Tryz.sizeOf112
  v117 := Tryz.zeroValue112
  t119 := Tryz.underlying120
  a119 := Tryz.isAgg120
  z119 := Tryz.sizeOf120
  t124 := Tryz.underlying115
  a124 := Tryz.isAgg115
  z124 := Tryz.sizeOf115
  v124 := Tryz.zeroValue115
  t138 := Tryz.underlying122
  a138 := Tryz.isAgg122
  z138 := Tryz.sizeOf122
  v138 := Tryz.zeroValue122
  t139 := Tryz.underlying123
  a139 := Tryz.isAgg123
  z139 := Tryz.sizeOf123
  v139 := Tryz.zeroValue123
  g3 := by kernel_rfl
  g4 := by kernel_rfl }
open Go.RowKit in
theorem Tryz.strings_Trim_laid (s cutset : ByteArray) (w : World) (hs : s.size ≤ 9223372036854775807) (hcs : cutset.size < 4294967281) (hascii : ∀ (j : Nat) b, cutset.data.toList[j]? = some b → b.toNat < 128) :
    Calls Tryz.prog 59 #[.string s, .string cutset] w fun e w' => e = .returned (.string ⟨(Lib.trimS s.data.toList cutset.data.toList).toArray⟩) ∧ Below w.heap.size w w' := Any.strings_Trim_laid Tryz.lays160 (by kernel_rfl) s cutset w hs hcs hascii
def Tryz.lays196_ren : Go.Shelf.Ren := ⟨fun | 196 => 61 | 259 => 79 | n => n, fun | 9 => 9 | 4 => 4 | 3 => 3 | 5 => 5 | 12 => 12 | 119 => 120 | 0 => 0 | 46 => 97 | 139 => 123 | 138 => 122 | 53 => 29 | n => n, fun | 3 => 0 | 4 => 1 | n => n⟩
theorem Tryz.lays196 : Go.Proofs.Lays.n196 Tryz.prog Tryz.lays196_ren := {
  mixed := by kernel_rfl
  f196 := Tryz.func61.trans (congrArg some (by kernel_rfl))
  f259 := Tryz.func79.trans (congrArg some (by kernel_rfl))
  t0 := Tryz.underlying0
  a0 := Tryz.isAgg0
  z0 := Tryz.sizeOf0
  v0 := Tryz.zeroValue0
  t3 := Tryz.underlying3
  a3 := Tryz.isAgg3
  z3 := Tryz.sizeOf3
  v3 := Tryz.zeroValue3
  t4 := Tryz.underlying4
  a4 := Tryz.isAgg4
  z4 := Tryz.sizeOf4
  v4 := Tryz.zeroValue4
  t5 := Tryz.underlying5
  a5 := Tryz.isAgg5
  z5 := Tryz.sizeOf5
  v5 := Tryz.zeroValue5
  t9 := Tryz.underlying9
  a9 := Tryz.isAgg9
  z9 := Tryz.sizeOf9
  v9 := Tryz.zeroValue9
  t12 := Tryz.underlying12
  a12 := Tryz.isAgg12
  z12 := Tryz.sizeOf12
  v12 := Tryz.zeroValue12
  t46 := Tryz.underlying97
  a46 := Tryz.isAgg97
  z46 := Tryz.sizeOf97
  v46 := Tryz.zeroValue97
  t53 := Tryz.underlying29
  a53 := Tryz.isAgg29
  z53 := Tryz.sizeOf29
  v53 := Tryz.zeroValue29
  t119 := Tryz.underlying120
  a119 := Tryz.isAgg120
  z119 := Tryz.sizeOf120
  t138 := Tryz.underlying122
  a138 := Tryz.isAgg122
  z138 := Tryz.sizeOf122
  v138 := Tryz.zeroValue122
  t139 := Tryz.underlying123
  a139 := Tryz.isAgg123
  z139 := Tryz.sizeOf123
  v139 := Tryz.zeroValue123
  g3 := by kernel_rfl
  g4 := by kernel_rfl }
open Go.RowKit in
theorem Tryz.utf8_ValidString (s : ByteArray) (w : World) (hs : s.size ≤ 9223372036854775807) (hT : Lib.Utf8Tabs 0 1 w) :
    Calls Tryz.prog 61 #[.string s] w fun e w' => e = .returned (.bool (Lib.validD s.data.toList)) ∧ Below w.heap.size w w' := Any.utf8_ValidString Tryz.lays196 s w hs hT
end Go.Proofs
