/-
  The shelf's laying of slices.SortFunc over events at this seat, in plain words, written by the kit's lay-plain.mjs. Turned into a template by name.
-/
import Derived.Shelf.SlGeneric
import Derived.Shelf.SlSortCmp.WholeK
import Derived.Ground.SlsfProg
import Derived.Test.YtnocbigcdjlliaaProg
namespace Go.Proofs
open Go.Shelf
def Try.sortE_ren : Go.Shelf.Ren := ⟨fun | 6 => 35 | 15 => 42 | 14 => 41 | 28 => 52 | 29 => 53 | 20 => 44 | 21 => 45 | 22 => 46 | 23 => 47 | 24 => 48 | 25 => 49 | 26 => 50 | 27 => 51 | 46 => 57 | 47 => 58 | 48 => 59 | 49 => 60 | 50 => 61 | 57 => 62 | n => n, fun | 22 => 62 | 24 => 66 | 25 => 82 | 3 => 3 | 39 => 87 | 0 => 0 | 53 => 98 | 55 => 89 | 4 => 4 | 46 => 92 | 45 => 91 | 50 => 67 | 5 => 5 | 9 => 9 | 66 => 105 | 70 => 54 | 76 => 110 | 77 => 111 | n => n, fun | n => n⟩
theorem Try.sortE : Go.Proofs.SlLaysF0.n6 Try.prog Try.sortE_ren := {
  mixed := by kernel_rfl
  f6 := ⟨Try.f35.name, by decide, Try.func35.trans (congrArg some (by kernel_rfl))⟩
  f14 := ⟨Try.f41.name, by decide, Try.func41.trans (congrArg some (by kernel_rfl))⟩
  f15 := Try.func42.trans (congrArg some (by kernel_rfl))
  f20 := ⟨Try.f44.name, by decide, Try.func44.trans (congrArg some (by kernel_rfl))⟩
  f21 := ⟨Try.f45.name, by decide, Try.func45.trans (congrArg some (by kernel_rfl))⟩
  f22 := ⟨Try.f46.name, by decide, Try.func46.trans (congrArg some (by kernel_rfl))⟩
  f23 := ⟨Try.f47.name, by decide, Try.func47.trans (congrArg some (by kernel_rfl))⟩
  f24 := ⟨Try.f48.name, by decide, Try.func48.trans (congrArg some (by kernel_rfl))⟩
  f25 := ⟨Try.f49.name, by decide, Try.func49.trans (congrArg some (by kernel_rfl))⟩
  f26 := ⟨Try.f50.name, by decide, Try.func50.trans (congrArg some (by kernel_rfl))⟩
  f27 := ⟨Try.f51.name, by decide, Try.func51.trans (congrArg some (by kernel_rfl))⟩
  f28 := Try.func52.trans (congrArg some (by kernel_rfl))
  f29 := Try.func53.trans (congrArg some (by kernel_rfl))
  f46 := ⟨Try.f57.name, by decide, Try.func57.trans (congrArg some (by kernel_rfl))⟩
  f47 := Try.func58.trans (congrArg some (by kernel_rfl))
  f48 := Try.func59.trans (congrArg some (by kernel_rfl))
  f49 := ⟨Try.f60.name, by decide, Try.func60.trans (congrArg some (by kernel_rfl))⟩
  f50 := ⟨Try.f61.name, by decide, Try.func61.trans (congrArg some (by kernel_rfl))⟩
  f57 := ⟨Try.f62.name, by decide, Try.func62.trans (congrArg some (by kernel_rfl))⟩
  t0 := Try.underlying0
  a0 := Try.isAgg0
  z0 := Try.sizeOf0
  v0 := Try.zeroValue0
  t3 := Try.underlying3
  a3 := Try.isAgg3
  z3 := Try.sizeOf3
  v3 := Try.zeroValue3
  t4 := Try.underlying4
  a4 := Try.isAgg4
  z4 := Try.sizeOf4
  v4 := Try.zeroValue4
  t5 := Try.underlying5
  a5 := Try.isAgg5
  z5 := Try.sizeOf5
  v5 := Try.zeroValue5
  t9 := Try.underlying9
  a9 := Try.isAgg9
  z9 := Try.sizeOf9
  v9 := Try.zeroValue9
  t22 := Try.underlying62
  a22 := Try.isAgg62
  z22 := Try.sizeOf62
  v22 := Try.zeroValue62
  t25 := Try.underlying82
  a25 := Try.isAgg82
  z25 := Try.sizeOf82
  v25 := Try.zeroValue82
  t39 := Try.underlying87
  a39 := Try.isAgg87
  z39 := Try.sizeOf87
  v39 := Try.zeroValue87
  t45 := Try.underlying91
  a45 := Try.isAgg91
  z45 := Try.sizeOf91
  v45 := Try.zeroValue91
  t46 := Try.underlying92
  a46 := Try.isAgg92
  z46 := Try.sizeOf92
  v46 := Try.zeroValue92
  t50 := Try.underlying67
  a50 := Try.isAgg67
  z50 := Try.sizeOf67
  v50 := Try.zeroValue67
  t53 := Try.underlying98
  a53 := Try.isAgg98
  z53 := Try.sizeOf98
  v53 := Try.zeroValue98
  t55 := Try.underlying89
  a55 := Try.isAgg89
  z55 := Try.sizeOf89
  v55 := Try.zeroValue89
  t66 := Try.underlying105
  a66 := Try.isAgg105
  z66 := Try.sizeOf105
  v66 := Try.zeroValue105
  t70 := Try.underlying54
  a70 := Try.isAgg54
  z70 := Try.sizeOf54
  v70 := Try.zeroValue54
  t76 := Try.underlying110
  a76 := Try.isAgg110
  z76 := Try.sizeOf110
  v76 := Try.zeroValue110
  t77 := Try.underlying111
  a77 := Try.isAgg111
  z77 := Try.sizeOf111
  v77 := Try.zeroValue111 }
end Go.Proofs
