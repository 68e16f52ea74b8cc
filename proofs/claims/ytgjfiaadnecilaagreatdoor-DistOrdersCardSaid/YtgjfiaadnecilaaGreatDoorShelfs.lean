/-
  DERIVED: THE SHELF's CONTRACTS AT THIS DUMP, IN PLAIN WORDS (tools/lay-plain.mjs out of 'TryzSort.lean', which tools/lay-shelf.mjs wrote): THE SAME DECLARATIONS UNDER THE SAME NAMES: 'import', 'namespace', 'open', 'def', 'theorem' AND NOTHING ELSE: no command of the shelf's: FOR A HAND-IN. Each laying: the table of numbers ('.._ren') and one theorem, a field a fact of the dump's own or the kernel's comparison; each contract: ONE APPLICATION.
-/
import Derived.Shelf.SlGeneric
import Derived.Shelf.SlSortCmp.WholeK
import Derived.Test.YtgjfiaadnecilaaGreatDoorProg
namespace Go.Proofs
open Go.Shelf
def Tryz.sortW_ren : Go.Shelf.Ren := ⟨fun | 6 => 97 | 15 => 140 | 14 => 139 | 28 => 176 | 29 => 177 | 20 => 168 | 21 => 169 | 22 => 170 | 23 => 171 | 24 => 172 | 25 => 173 | 26 => 174 | 27 => 175 | 46 => 193 | 47 => 194 | 48 => 195 | 49 => 196 | 50 => 197 | 57 => 213 | n => n, fun | 22 => 22 | 24 => 61 | 25 => 125 | 3 => 3 | 39 => 159 | 0 => 0 | 53 => 194 | 55 => 196 | 4 => 4 | 46 => 187 | 45 => 186 | 50 => 191 | 5 => 5 | 9 => 9 | 66 => 207 | 70 => 211 | 76 => 225 | 77 => 36 | n => n, fun | n => n⟩
theorem Tryz.sortW : Go.Proofs.SlLaysF0.n6 Tryz.prog Tryz.sortW_ren := {
  mixed := by kernel_rfl
  f6 := ⟨Tryz.f97.name, by decide, Tryz.func97.trans (congrArg some (by kernel_rfl))⟩
  f14 := ⟨Tryz.f139.name, by decide, Tryz.func139.trans (congrArg some (by kernel_rfl))⟩
  f15 := Tryz.func140.trans (congrArg some (by kernel_rfl))
  f20 := ⟨Tryz.f168.name, by decide, Tryz.func168.trans (congrArg some (by kernel_rfl))⟩
  f21 := ⟨Tryz.f169.name, by decide, Tryz.func169.trans (congrArg some (by kernel_rfl))⟩
  f22 := ⟨Tryz.f170.name, by decide, Tryz.func170.trans (congrArg some (by kernel_rfl))⟩
  f23 := ⟨Tryz.f171.name, by decide, Tryz.func171.trans (congrArg some (by kernel_rfl))⟩
  f24 := ⟨Tryz.f172.name, by decide, Tryz.func172.trans (congrArg some (by kernel_rfl))⟩
  f25 := ⟨Tryz.f173.name, by decide, Tryz.func173.trans (congrArg some (by kernel_rfl))⟩
  f26 := ⟨Tryz.f174.name, by decide, Tryz.func174.trans (congrArg some (by kernel_rfl))⟩
  f27 := ⟨Tryz.f175.name, by decide, Tryz.func175.trans (congrArg some (by kernel_rfl))⟩
  f28 := Tryz.func176.trans (congrArg some (by kernel_rfl))
  f29 := Tryz.func177.trans (congrArg some (by kernel_rfl))
  f46 := ⟨Tryz.f193.name, by decide, Tryz.func193.trans (congrArg some (by kernel_rfl))⟩
  f47 := Tryz.func194.trans (congrArg some (by kernel_rfl))
  f48 := Tryz.func195.trans (congrArg some (by kernel_rfl))
  f49 := ⟨Tryz.f196.name, by decide, Tryz.func196.trans (congrArg some (by kernel_rfl))⟩
  f50 := ⟨Tryz.f197.name, by decide, Tryz.func197.trans (congrArg some (by kernel_rfl))⟩
  f57 := ⟨Tryz.f213.name, by decide, Tryz.func213.trans (congrArg some (by kernel_rfl))⟩
  t0 := Tryz.underlying0
  a0 := Tryz.isAgg0
  z0 := Tryz.sizeOf0
  v0 := Tryz.zeroValue0
  t3 := Tryz.underlying3
  a3 := Tryz.isAgg3
  z3 := Tryz.sizeOf3
  v3 := Tryz.zeroValue3
  t4 := Tryz.underlying4
  a4 := Tryz.isAgg4
  z4 := Tryz.sizeOf4
  v4 := Tryz.zeroValue4
  t5 := Tryz.underlying5
  a5 := Tryz.isAgg5
  z5 := Tryz.sizeOf5
  v5 := Tryz.zeroValue5
  t9 := Tryz.underlying9
  a9 := Tryz.isAgg9
  z9 := Tryz.sizeOf9
  v9 := Tryz.zeroValue9
  t22 := Tryz.underlying22
  a22 := Tryz.isAgg22
  z22 := Tryz.sizeOf22
  v22 := Tryz.zeroValue22
  t25 := Tryz.underlying125
  a25 := Tryz.isAgg125
  z25 := Tryz.sizeOf125
  v25 := Tryz.zeroValue125
  t39 := Tryz.underlying159
  a39 := Tryz.isAgg159
  z39 := Tryz.sizeOf159
  v39 := Tryz.zeroValue159
  t45 := Tryz.underlying186
  a45 := Tryz.isAgg186
  z45 := Tryz.sizeOf186
  v45 := Tryz.zeroValue186
  t46 := Tryz.underlying187
  a46 := Tryz.isAgg187
  z46 := Tryz.sizeOf187
  v46 := Tryz.zeroValue187
  t50 := Tryz.underlying191
  a50 := Tryz.isAgg191
  z50 := Tryz.sizeOf191
  v50 := Tryz.zeroValue191
  t53 := Tryz.underlying194
  a53 := Tryz.isAgg194
  z53 := Tryz.sizeOf194
  v53 := Tryz.zeroValue194
  t55 := Tryz.underlying196
  a55 := Tryz.isAgg196
  z55 := Tryz.sizeOf196
  v55 := Tryz.zeroValue196
  t66 := Tryz.underlying207
  a66 := Tryz.isAgg207
  z66 := Tryz.sizeOf207
  v66 := Tryz.zeroValue207
  t70 := Tryz.underlying211
  a70 := Tryz.isAgg211
  z70 := Tryz.sizeOf211
  v70 := Tryz.zeroValue211
  t76 := Tryz.underlying225
  a76 := Tryz.isAgg225
  z76 := Tryz.sizeOf225
  v76 := Tryz.zeroValue225
  t77 := Tryz.underlying36
  a77 := Tryz.isAgg36
  z77 := Tryz.sizeOf36
  v77 := Tryz.zeroValue36 }
end Go.Proofs
