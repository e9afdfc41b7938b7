/-
  DERIVED: THE SHELF's CONTRACTS AT THIS DUMP, IN PLAIN WORDS (tools/lay-plain.mjs out of 'YtcmlhpodghfheaaDoorS0.lean', which tools/lay-shelf.mjs wrote): THE SAME DECLARATIONS UNDER THE SAME NAMES: 'import', 'namespace', 'open', 'def', 'theorem' AND NOTHING ELSE: no command of the shelf's: FOR A HAND-IN. Each laying: the table of numbers ('.._ren') and one theorem, a field a fact of the dump's own or the kernel's comparison; each contract: ONE APPLICATION.
-/
import Derived.Shelf.SlSortCmp.WholeK
import Derived.Ground.SlsfProg
import Derived.Test.YtcmlhpodghfheaaDoorProg
namespace Go.Proofs
open Go.Shelf
def Tryd.sortSet_ren : Go.Shelf.Ren := ⟨fun | 6 => 57 | 15 => 98 | 14 => 97 | 28 => 129 | 29 => 130 | 20 => 121 | 21 => 122 | 22 => 123 | 23 => 124 | 24 => 125 | 25 => 126 | 26 => 127 | 27 => 128 | 46 => 138 | 47 => 139 | 48 => 140 | 49 => 141 | 50 => 142 | 57 => 147 | n => n, fun | 22 => 71 | 24 => 69 | 25 => 117 | 3 => 3 | 39 => 118 | 0 => 0 | 53 => 188 | 55 => 111 | 4 => 4 | 46 => 182 | 45 => 181 | 50 => 162 | 5 => 5 | 9 => 9 | 66 => 194 | 70 => 198 | 76 => 204 | 77 => 50 | n => n, fun | n => n⟩
theorem Tryd.sortSet : Go.Proofs.SlLaysF0.n6 Tryd.prog Tryd.sortSet_ren := {
  mixed := by kernel_rfl
  f6 := ⟨Tryd.f57.name, by decide, Tryd.func57.trans (congrArg some (by kernel_rfl))⟩
  f14 := ⟨Tryd.f97.name, by decide, Tryd.func97.trans (congrArg some (by kernel_rfl))⟩
  f15 := Tryd.func98.trans (congrArg some (by kernel_rfl))
  f20 := ⟨Tryd.f121.name, by decide, Tryd.func121.trans (congrArg some (by kernel_rfl))⟩
  f21 := ⟨Tryd.f122.name, by decide, Tryd.func122.trans (congrArg some (by kernel_rfl))⟩
  f22 := ⟨Tryd.f123.name, by decide, Tryd.func123.trans (congrArg some (by kernel_rfl))⟩
  f23 := ⟨Tryd.f124.name, by decide, Tryd.func124.trans (congrArg some (by kernel_rfl))⟩
  f24 := ⟨Tryd.f125.name, by decide, Tryd.func125.trans (congrArg some (by kernel_rfl))⟩
  f25 := ⟨Tryd.f126.name, by decide, Tryd.func126.trans (congrArg some (by kernel_rfl))⟩
  f26 := ⟨Tryd.f127.name, by decide, Tryd.func127.trans (congrArg some (by kernel_rfl))⟩
  f27 := ⟨Tryd.f128.name, by decide, Tryd.func128.trans (congrArg some (by kernel_rfl))⟩
  f28 := Tryd.func129.trans (congrArg some (by kernel_rfl))
  f29 := Tryd.func130.trans (congrArg some (by kernel_rfl))
  f46 := ⟨Tryd.f138.name, by decide, Tryd.func138.trans (congrArg some (by kernel_rfl))⟩
  f47 := Tryd.func139.trans (congrArg some (by kernel_rfl))
  f48 := Tryd.func140.trans (congrArg some (by kernel_rfl))
  f49 := ⟨Tryd.f141.name, by decide, Tryd.func141.trans (congrArg some (by kernel_rfl))⟩
  f50 := ⟨Tryd.f142.name, by decide, Tryd.func142.trans (congrArg some (by kernel_rfl))⟩
  f57 := ⟨Tryd.f147.name, by decide, Tryd.func147.trans (congrArg some (by kernel_rfl))⟩
  t0 := Tryd.underlying0
  a0 := Tryd.isAgg0
  z0 := Tryd.sizeOf0
  v0 := Tryd.zeroValue0
  t3 := Tryd.underlying3
  a3 := Tryd.isAgg3
  z3 := Tryd.sizeOf3
  v3 := Tryd.zeroValue3
  t4 := Tryd.underlying4
  a4 := Tryd.isAgg4
  z4 := Tryd.sizeOf4
  v4 := Tryd.zeroValue4
  t5 := Tryd.underlying5
  a5 := Tryd.isAgg5
  z5 := Tryd.sizeOf5
  v5 := Tryd.zeroValue5
  t9 := Tryd.underlying9
  a9 := Tryd.isAgg9
  z9 := Tryd.sizeOf9
  v9 := Tryd.zeroValue9
  t22 := Tryd.underlying71
  a22 := Tryd.isAgg71
  z22 := Tryd.sizeOf71
  v22 := Tryd.zeroValue71
  t25 := Tryd.underlying117
  a25 := Tryd.isAgg117
  z25 := Tryd.sizeOf117
  v25 := Tryd.zeroValue117
  t39 := Tryd.underlying118
  a39 := Tryd.isAgg118
  z39 := Tryd.sizeOf118
  v39 := Tryd.zeroValue118
  t45 := Tryd.underlying181
  a45 := Tryd.isAgg181
  z45 := Tryd.sizeOf181
  v45 := Tryd.zeroValue181
  t46 := Tryd.underlying182
  a46 := Tryd.isAgg182
  z46 := Tryd.sizeOf182
  v46 := Tryd.zeroValue182
  t50 := Tryd.underlying162
  a50 := Tryd.isAgg162
  z50 := Tryd.sizeOf162
  v50 := Tryd.zeroValue162
  t53 := Tryd.underlying188
  a53 := Tryd.isAgg188
  z53 := Tryd.sizeOf188
  v53 := Tryd.zeroValue188
  t55 := Tryd.underlying111
  a55 := Tryd.isAgg111
  z55 := Tryd.sizeOf111
  v55 := Tryd.zeroValue111
  t66 := Tryd.underlying194
  a66 := Tryd.isAgg194
  z66 := Tryd.sizeOf194
  v66 := Tryd.zeroValue194
  t70 := Tryd.underlying198
  a70 := Tryd.isAgg198
  z70 := Tryd.sizeOf198
  v70 := Tryd.zeroValue198
  t76 := Tryd.underlying204
  a76 := Tryd.isAgg204
  z76 := Tryd.sizeOf204
  v76 := Tryd.zeroValue204
  t77 := Tryd.underlying50
  a77 := Tryd.isAgg50
  z77 := Tryd.sizeOf50
  v77 := Tryd.zeroValue50 }
end Go.Proofs
