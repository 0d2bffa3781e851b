/-
  DERIVED: THE SHELF's CONTRACTS AT THIS DUMP, IN PLAIN WORDS (tools/lay-plain.mjs out of 'YtboiafchmdflpaaDoorShelfLay.lean', which tools/lay-shelf.mjs wrote): THE SAME DECLARATIONS UNDER THE SAME NAMES: 'import', 'namespace', 'open', 'def', 'theorem' AND NOTHING ELSE: no command of the shelf's: FOR A HAND-IN. Each laying: the table of numbers ('.._ren') and one theorem, a field a fact of the dump's own or the kernel's comparison; each contract: ONE APPLICATION.
-/
import Derived.Shelf.Strings.SlTrimAscii
import Derived.Shelf.Unicode.ValidAny
import Derived.Test.YtboiafchmdflpaaDoorProg
namespace Go.Proofs
open Go.Shelf
def Tryd.lays160_ren : Go.Shelf.Ren := ⟨fun | 160 => 86 | 232 => 102 | 231 => 101 | 227 => 103 | 234 => 105 | 233 => 104 | 236 => 107 | 235 => 106 | 228 => 126 | 271 => 129 | 151 => 128 | 197 => 127 | 120 => 148 | 152 => 147 | 260 => 146 | 137 => 154 | 119 => 155 | 224 => 156 | 225 => 157 | 217 => 159 | 266 => 160 | n => n, fun | 9 => 9 | 4 => 4 | 3 => 3 | 5 => 5 | 117 => 160 | 116 => 159 | 0 => 0 | 124 => 163 | 21 => 21 | 105 => 188 | 46 => 146 | 119 => 168 | 139 => 171 | 138 => 170 | n => n, fun | 3 => 0 | 4 => 1 | n => n⟩
theorem Tryd.lays160 : Go.Proofs.Lays.n160 Tryd.prog Tryd.lays160_ren := {
  mixed := by kernel_rfl
  f119 := Tryd.func155.trans (congrArg some (by kernel_rfl))
  f120 := Tryd.func148.trans (congrArg some (by kernel_rfl))
  f137 := Tryd.func154.trans (congrArg some (by kernel_rfl))
  f151 := Tryd.func128.trans (congrArg some (by kernel_rfl))
  f152 := Tryd.func147.trans (congrArg some (by kernel_rfl))
  f160 := Tryd.func86.trans (congrArg some (by kernel_rfl))
  f197 := Tryd.func127.trans (congrArg some (by kernel_rfl))
  f217 := Tryd.func159.trans (congrArg some (by kernel_rfl))
  f224 := Tryd.func156.trans (congrArg some (by kernel_rfl))
  f225 := Tryd.func157.trans (congrArg some (by kernel_rfl))
  f227 := Tryd.func103.trans (congrArg some (by kernel_rfl))
  f228 := Tryd.func126.trans (congrArg some (by kernel_rfl))
  f231 := Tryd.func101.trans (congrArg some (by kernel_rfl))
  f232 := Tryd.func102.trans (congrArg some (by kernel_rfl))
  f233 := Tryd.func104.trans (congrArg some (by kernel_rfl))
  f234 := Tryd.func105.trans (congrArg some (by kernel_rfl))
  f235 := Tryd.func106.trans (congrArg some (by kernel_rfl))
  f236 := Tryd.func107.trans (congrArg some (by kernel_rfl))
  f260 := Tryd.func146.trans (congrArg some (by kernel_rfl))
  f266 := Tryd.func160.trans (congrArg some (by kernel_rfl))
  f271 := Tryd.func129.trans (congrArg some (by kernel_rfl))
  t0 := Tryd.underlying0
  a0 := Tryd.isAgg0
  z0 := Tryd.sizeOf0
  v0 := Tryd.zeroValue0
  t3 := Tryd.underlying3
  a3 := Tryd.isAgg3
  z3 := Tryd.sizeOf3
  v3 := Tryd.zeroValue3
  t4 := Tryd.underlying4
  a4 := Tryd.isAgg4
  z4 := Tryd.sizeOf4
  v4 := Tryd.zeroValue4
  t5 := Tryd.underlying5
  a5 := Tryd.isAgg5
  z5 := Tryd.sizeOf5
  v5 := Tryd.zeroValue5
  t9 := Tryd.underlying9
  a9 := Tryd.isAgg9
  z9 := Tryd.sizeOf9
  v9 := Tryd.zeroValue9
  t21 := Tryd.underlying21
  a21 := Tryd.isAgg21
  z21 := Tryd.sizeOf21
  v21 := Tryd.zeroValue21
  t46 := Tryd.underlying146
  a46 := Tryd.isAgg146
  z46 := Tryd.sizeOf146
  v46 := Tryd.zeroValue146
  t105 := Tryd.underlying188
  a105 := Tryd.isAgg188
  z105 := Tryd.sizeOf188
  v105 := Tryd.zeroValue188
  t116 := Tryd.underlying159
  a116 := Tryd.isAgg159
  z116 := Tryd.sizeOf159
  t117 := Tryd.underlying160
  a117 := Tryd.isAgg160
  z117 := Tryd.sizeOf160
  v117 := Tryd.zeroValue160
  t119 := Tryd.underlying168
  a119 := Tryd.isAgg168
  z119 := Tryd.sizeOf168
  t124 := Tryd.underlying163
  a124 := Tryd.isAgg163
  z124 := Tryd.sizeOf163
  v124 := Tryd.zeroValue163
  t138 := Tryd.underlying170
  a138 := Tryd.isAgg170
  z138 := Tryd.sizeOf170
  v138 := Tryd.zeroValue170
  t139 := Tryd.underlying171
  a139 := Tryd.isAgg171
  z139 := Tryd.sizeOf171
  v139 := Tryd.zeroValue171
  g3 := by kernel_rfl
  g4 := by kernel_rfl }
open Go.RowKit in
theorem Tryd.strings_Trim_laid (s cutset : ByteArray) (w : World) (hs : s.size ≤ 9223372036854775807) (hcs : cutset.size < 4294967281) (hascii : ∀ (j : Nat) b, cutset.data.toList[j]? = some b → b.toNat < 128) :
    Calls Tryd.prog 86 #[.string s, .string cutset] w fun e w' => e = .returned (.string ⟨(Lib.trimS s.data.toList cutset.data.toList).toArray⟩) ∧ Below w.heap.size w w' := Any.strings_Trim_laid Tryd.lays160 (by kernel_rfl) s cutset w hs hcs hascii
def Tryd.lays196_ren : Go.Shelf.Ren := ⟨fun | 196 => 88 | 259 => 110 | n => n, fun | 9 => 9 | 4 => 4 | 3 => 3 | 5 => 5 | 12 => 12 | 119 => 168 | 0 => 0 | 46 => 146 | 139 => 171 | 138 => 170 | 53 => 23 | n => n, fun | 3 => 0 | 4 => 1 | n => n⟩
theorem Tryd.lays196 : Go.Proofs.Lays.n196 Tryd.prog Tryd.lays196_ren := {
  mixed := by kernel_rfl
  f196 := Tryd.func88.trans (congrArg some (by kernel_rfl))
  f259 := Tryd.func110.trans (congrArg some (by kernel_rfl))
  t0 := Tryd.underlying0
  a0 := Tryd.isAgg0
  z0 := Tryd.sizeOf0
  v0 := Tryd.zeroValue0
  t3 := Tryd.underlying3
  a3 := Tryd.isAgg3
  z3 := Tryd.sizeOf3
  v3 := Tryd.zeroValue3
  t4 := Tryd.underlying4
  a4 := Tryd.isAgg4
  z4 := Tryd.sizeOf4
  v4 := Tryd.zeroValue4
  t5 := Tryd.underlying5
  a5 := Tryd.isAgg5
  z5 := Tryd.sizeOf5
  v5 := Tryd.zeroValue5
  t9 := Tryd.underlying9
  a9 := Tryd.isAgg9
  z9 := Tryd.sizeOf9
  v9 := Tryd.zeroValue9
  t12 := Tryd.underlying12
  a12 := Tryd.isAgg12
  z12 := Tryd.sizeOf12
  v12 := Tryd.zeroValue12
  t46 := Tryd.underlying146
  a46 := Tryd.isAgg146
  z46 := Tryd.sizeOf146
  v46 := Tryd.zeroValue146
  t53 := Tryd.underlying23
  a53 := Tryd.isAgg23
  z53 := Tryd.sizeOf23
  v53 := Tryd.zeroValue23
  t119 := Tryd.underlying168
  a119 := Tryd.isAgg168
  z119 := Tryd.sizeOf168
  t138 := Tryd.underlying170
  a138 := Tryd.isAgg170
  z138 := Tryd.sizeOf170
  v138 := Tryd.zeroValue170
  t139 := Tryd.underlying171
  a139 := Tryd.isAgg171
  z139 := Tryd.sizeOf171
  v139 := Tryd.zeroValue171
  g3 := by kernel_rfl
  g4 := by kernel_rfl }
open Go.RowKit in
theorem Tryd.utf8_ValidString (s : ByteArray) (w : World) (hs : s.size ≤ 9223372036854775807) (hT : Lib.Utf8Tabs 0 1 w) :
    Calls Tryd.prog 88 #[.string s] w fun e w' => e = .returned (.bool (Lib.validD s.data.toList)) ∧ Below w.heap.size w w' := Any.utf8_ValidString Tryd.lays196 s w hs hT
end Go.Proofs
