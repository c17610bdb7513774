/-
  DERIVED: THE SHELF's CONTRACTS AT THIS DUMP, IN PLAIN WORDS (tools/lay-plain.mjs out of 'YtidkamnciomnmaaDoorSortLay0.lean', which tools/lay-shelf.mjs wrote): THE SAME DECLARATIONS UNDER THE SAME NAMES: 'import', 'namespace', 'open', 'def', 'theorem' AND NOTHING ELSE: no command of the shelf's: FOR A HAND-IN. Each laying: the table of numbers ('.._ren') and one theorem, a field a fact of the dump's own or the kernel's comparison; each contract: ONE APPLICATION.
-/
import Derived.Shelf.SlSortCmp.NoneTotal
import Derived.Test.YtidkamnciomnmaaDoorProg
namespace Go.Proofs
open Go.Shelf
def Tryd.sortL_ren : Go.Shelf.Ren := ⟨fun | 6 => 29 | 15 => 40 | 14 => 39 | 28 => 54 | 29 => 55 | 20 => 46 | 21 => 47 | 22 => 48 | 23 => 49 | 24 => 50 | 25 => 51 | 26 => 52 | 27 => 53 | 46 => 57 | 47 => 58 | 48 => 59 | 49 => 60 | 50 => 61 | 57 => 66 | n => n, fun | 22 => 27 | 24 => 49 | 25 => 71 | 3 => 3 | 39 => 91 | 0 => 0 | 53 => 117 | 55 => 30 | 4 => 4 | 46 => 110 | 45 => 109 | 50 => 114 | 5 => 5 | 9 => 9 | 66 => 119 | 70 => 123 | 76 => 127 | 77 => 128 | n => n, fun | n => n⟩
theorem Tryd.sortL : Go.Proofs.SlLaysF0.n6 Tryd.prog Tryd.sortL_ren := {
  mixed := by kernel_rfl
  f6 := ⟨Tryd.f29.name, by decide, Tryd.func29.trans (congrArg some (by kernel_rfl))⟩
  f14 := ⟨Tryd.f39.name, by decide, Tryd.func39.trans (congrArg some (by kernel_rfl))⟩
  f15 := Tryd.func40.trans (congrArg some (by kernel_rfl))
  f20 := ⟨Tryd.f46.name, by decide, Tryd.func46.trans (congrArg some (by kernel_rfl))⟩
  f21 := ⟨Tryd.f47.name, by decide, Tryd.func47.trans (congrArg some (by kernel_rfl))⟩
  f22 := ⟨Tryd.f48.name, by decide, Tryd.func48.trans (congrArg some (by kernel_rfl))⟩
  f23 := ⟨Tryd.f49.name, by decide, Tryd.func49.trans (congrArg some (by kernel_rfl))⟩
  f24 := ⟨Tryd.f50.name, by decide, Tryd.func50.trans (congrArg some (by kernel_rfl))⟩
  f25 := ⟨Tryd.f51.name, by decide, Tryd.func51.trans (congrArg some (by kernel_rfl))⟩
  f26 := ⟨Tryd.f52.name, by decide, Tryd.func52.trans (congrArg some (by kernel_rfl))⟩
  f27 := ⟨Tryd.f53.name, by decide, Tryd.func53.trans (congrArg some (by kernel_rfl))⟩
  f28 := Tryd.func54.trans (congrArg some (by kernel_rfl))
  f29 := Tryd.func55.trans (congrArg some (by kernel_rfl))
  f46 := ⟨Tryd.f57.name, by decide, Tryd.func57.trans (congrArg some (by kernel_rfl))⟩
  f47 := Tryd.func58.trans (congrArg some (by kernel_rfl))
  f48 := Tryd.func59.trans (congrArg some (by kernel_rfl))
  f49 := ⟨Tryd.f60.name, by decide, Tryd.func60.trans (congrArg some (by kernel_rfl))⟩
  f50 := ⟨Tryd.f61.name, by decide, Tryd.func61.trans (congrArg some (by kernel_rfl))⟩
  f57 := ⟨Tryd.f66.name, by decide, Tryd.func66.trans (congrArg some (by kernel_rfl))⟩
  t0 := Tryd.underlying0
  a0 := Tryd.isAgg0
  z0 := Tryd.sizeOf0
  v0 := Tryd.zeroValue0
  t3 := Tryd.underlying3
  a3 := Tryd.isAgg3
  z3 := Tryd.sizeOf3
  v3 := Tryd.zeroValue3
  t4 := Tryd.underlying4
  a4 := Tryd.isAgg4
  z4 := Tryd.sizeOf4
  v4 := Tryd.zeroValue4
  t5 := Tryd.underlying5
  a5 := Tryd.isAgg5
  z5 := Tryd.sizeOf5
  v5 := Tryd.zeroValue5
  t9 := Tryd.underlying9
  a9 := Tryd.isAgg9
  z9 := Tryd.sizeOf9
  v9 := Tryd.zeroValue9
  t22 := Tryd.underlying27
  a22 := Tryd.isAgg27
  z22 := Tryd.sizeOf27
  v22 := Tryd.zeroValue27
  t25 := Tryd.underlying71
  a25 := Tryd.isAgg71
  z25 := Tryd.sizeOf71
  v25 := Tryd.zeroValue71
  t39 := Tryd.underlying91
  a39 := Tryd.isAgg91
  z39 := Tryd.sizeOf91
  v39 := Tryd.zeroValue91
  t45 := Tryd.underlying109
  a45 := Tryd.isAgg109
  z45 := Tryd.sizeOf109
  v45 := Tryd.zeroValue109
  t46 := Tryd.underlying110
  a46 := Tryd.isAgg110
  z46 := Tryd.sizeOf110
  v46 := Tryd.zeroValue110
  t50 := Tryd.underlying114
  a50 := Tryd.isAgg114
  z50 := Tryd.sizeOf114
  v50 := Tryd.zeroValue114
  t53 := Tryd.underlying117
  a53 := Tryd.isAgg117
  z53 := Tryd.sizeOf117
  v53 := Tryd.zeroValue117
  t55 := Tryd.underlying30
  a55 := Tryd.isAgg30
  z55 := Tryd.sizeOf30
  v55 := Tryd.zeroValue30
  t66 := Tryd.underlying119
  a66 := Tryd.isAgg119
  z66 := Tryd.sizeOf119
  v66 := Tryd.zeroValue119
  t70 := Tryd.underlying123
  a70 := Tryd.isAgg123
  z70 := Tryd.sizeOf123
  v70 := Tryd.zeroValue123
  t76 := Tryd.underlying127
  a76 := Tryd.isAgg127
  z76 := Tryd.sizeOf127
  v76 := Tryd.zeroValue127
  t77 := Tryd.underlying128
  a77 := Tryd.isAgg128
  z77 := Tryd.sizeOf128
  v77 := Tryd.zeroValue128 }
end Go.Proofs
