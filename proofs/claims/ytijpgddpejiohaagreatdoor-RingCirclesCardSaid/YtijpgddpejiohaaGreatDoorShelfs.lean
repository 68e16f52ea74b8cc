/-
  The contract of slices.SortFunc on points at this program, laid by the kit's tools.
-/
import Derived.Shelf.SlGeneric
import Derived.Shelf.SlSortCmp.WholeK
import Derived.Shelf.SlLaysF0
import Derived.Test.YtijpgddpejiohaaGreatDoorProg
namespace Go.Proofs
open Go.Shelf
def Tryz.sortW_ren : Go.Shelf.Ren := ⟨fun | 6 => 43 | 15 => 107 | 14 => 106 | 28 => 179 | 29 => 180 | 20 => 171 | 21 => 172 | 22 => 173 | 23 => 174 | 24 => 175 | 25 => 176 | 26 => 177 | 27 => 178 | 46 => 217 | 47 => 218 | 48 => 219 | 49 => 220 | 50 => 221 | 57 => 241 | n => n, fun | 22 => 39 | 24 => 69 | 25 => 83 | 3 => 3 | 39 => 150 | 0 => 0 | 53 => 204 | 55 => 206 | 4 => 4 | 46 => 198 | 45 => 197 | 50 => 173 | 5 => 5 | 9 => 9 | 66 => 229 | 70 => 233 | 76 => 255 | 77 => 256 | n => n, fun | n => n⟩
theorem Tryz.sortW : Go.Proofs.SlLaysF0.n6 Tryz.prog Tryz.sortW_ren := {
  mixed := by kernel_rfl
  f6 := ⟨Tryz.f43.name, by decide, Tryz.func43.trans (congrArg some (by kernel_rfl))⟩
  f14 := ⟨Tryz.f106.name, by decide, Tryz.func106.trans (congrArg some (by kernel_rfl))⟩
  f15 := Tryz.func107.trans (congrArg some (by kernel_rfl))
  f20 := ⟨Tryz.f171.name, by decide, Tryz.func171.trans (congrArg some (by kernel_rfl))⟩
  f21 := ⟨Tryz.f172.name, by decide, Tryz.func172.trans (congrArg some (by kernel_rfl))⟩
  f22 := ⟨Tryz.f173.name, by decide, Tryz.func173.trans (congrArg some (by kernel_rfl))⟩
  f23 := ⟨Tryz.f174.name, by decide, Tryz.func174.trans (congrArg some (by kernel_rfl))⟩
  f24 := ⟨Tryz.f175.name, by decide, Tryz.func175.trans (congrArg some (by kernel_rfl))⟩
  f25 := ⟨Tryz.f176.name, by decide, Tryz.func176.trans (congrArg some (by kernel_rfl))⟩
  f26 := ⟨Tryz.f177.name, by decide, Tryz.func177.trans (congrArg some (by kernel_rfl))⟩
  f27 := ⟨Tryz.f178.name, by decide, Tryz.func178.trans (congrArg some (by kernel_rfl))⟩
  f28 := Tryz.func179.trans (congrArg some (by kernel_rfl))
  f29 := Tryz.func180.trans (congrArg some (by kernel_rfl))
  f46 := ⟨Tryz.f217.name, by decide, Tryz.func217.trans (congrArg some (by kernel_rfl))⟩
  f47 := Tryz.func218.trans (congrArg some (by kernel_rfl))
  f48 := Tryz.func219.trans (congrArg some (by kernel_rfl))
  f49 := ⟨Tryz.f220.name, by decide, Tryz.func220.trans (congrArg some (by kernel_rfl))⟩
  f50 := ⟨Tryz.f221.name, by decide, Tryz.func221.trans (congrArg some (by kernel_rfl))⟩
  f57 := ⟨Tryz.f241.name, by decide, Tryz.func241.trans (congrArg some (by kernel_rfl))⟩
  t0 := Tryz.underlying0
  a0 := Tryz.isAgg0
  z0 := Tryz.sizeOf0
  v0 := Tryz.zeroValue0
  t3 := Tryz.underlying3
  a3 := Tryz.isAgg3
  z3 := Tryz.sizeOf3
  v3 := Tryz.zeroValue3
  t4 := Tryz.underlying4
  a4 := Tryz.isAgg4
  z4 := Tryz.sizeOf4
  v4 := Tryz.zeroValue4
  t5 := Tryz.underlying5
  a5 := Tryz.isAgg5
  z5 := Tryz.sizeOf5
  v5 := Tryz.zeroValue5
  t9 := Tryz.underlying9
  a9 := Tryz.isAgg9
  z9 := Tryz.sizeOf9
  v9 := Tryz.zeroValue9
  t22 := Tryz.underlying39
  a22 := Tryz.isAgg39
  z22 := Tryz.sizeOf39
  v22 := Tryz.zeroValue39
  t25 := Tryz.underlying83
  a25 := Tryz.isAgg83
  z25 := Tryz.sizeOf83
  v25 := Tryz.zeroValue83
  t39 := Tryz.underlying150
  a39 := Tryz.isAgg150
  z39 := Tryz.sizeOf150
  v39 := Tryz.zeroValue150
  t45 := Tryz.underlying197
  a45 := Tryz.isAgg197
  z45 := Tryz.sizeOf197
  v45 := Tryz.zeroValue197
  t46 := Tryz.underlying198
  a46 := Tryz.isAgg198
  z46 := Tryz.sizeOf198
  v46 := Tryz.zeroValue198
  t50 := Tryz.underlying173
  a50 := Tryz.isAgg173
  z50 := Tryz.sizeOf173
  v50 := Tryz.zeroValue173
  t53 := Tryz.underlying204
  a53 := Tryz.isAgg204
  z53 := Tryz.sizeOf204
  v53 := Tryz.zeroValue204
  t55 := Tryz.underlying206
  a55 := Tryz.isAgg206
  z55 := Tryz.sizeOf206
  v55 := Tryz.zeroValue206
  t66 := Tryz.underlying229
  a66 := Tryz.isAgg229
  z66 := Tryz.sizeOf229
  v66 := Tryz.zeroValue229
  t70 := Tryz.underlying233
  a70 := Tryz.isAgg233
  z70 := Tryz.sizeOf233
  v70 := Tryz.zeroValue233
  t76 := Tryz.underlying255
  a76 := Tryz.isAgg255
  z76 := Tryz.sizeOf255
  v76 := Tryz.zeroValue255
  t77 := Tryz.underlying256
  a77 := Tryz.isAgg256
  z77 := Tryz.sizeOf256
  v77 := Tryz.zeroValue256 }
end Go.Proofs
