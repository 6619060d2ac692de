/-
  DERIVED: THE SHELF's CONTRACTS AT THIS DUMP, IN PLAIN WORDS (tools/lay-plain.mjs out of 'YtakccepilbmmlaaShelf.lean', which tools/lay-shelf.mjs wrote): THE SAME DECLARATIONS UNDER THE SAME NAMES: 'import', 'namespace', 'open', 'def', 'theorem' AND NOTHING ELSE: no command of the shelf's: FOR A HAND-IN. Each laying: the table of numbers ('.._ren') and one theorem, a field a fact of the dump's own or the kernel's comparison; each contract: ONE APPLICATION.
-/
import Derived.Shelf.SlGeneric
import Derived.Ground.SlsfProg
import Derived.Shelf.SlSortCmp.WholeK
import Derived.Test.YtakccepilbmmlaaProg
namespace Go.Proofs
open Go.Shelf
def Try.sortPair_ren : Go.Shelf.Ren := ⟨fun | 6 => 54 | 15 => 97 | 14 => 96 | 28 => 114 | 29 => 115 | 20 => 106 | 21 => 107 | 22 => 108 | 23 => 109 | 24 => 110 | 25 => 111 | 26 => 112 | 27 => 113 | 46 => 129 | 47 => 130 | 48 => 131 | 49 => 132 | 50 => 133 | 57 => 139 | n => n, fun | 22 => 35 | 24 => 39 | 25 => 81 | 3 => 3 | 39 => 109 | 0 => 0 | 53 => 48 | 55 => 135 | 4 => 4 | 46 => 128 | 45 => 127 | 50 => 68 | 5 => 5 | 9 => 9 | 66 => 143 | 70 => 147 | 76 => 152 | 77 => 115 | n => n, fun | n => n⟩
theorem Try.sortPair : Go.Proofs.SlLaysF0.n6 Try.prog Try.sortPair_ren := {
  mixed := by kernel_rfl
  f6 := ⟨Try.f54.name, by decide, Try.func54.trans (congrArg some (by kernel_rfl))⟩
  f14 := ⟨Try.f96.name, by decide, Try.func96.trans (congrArg some (by kernel_rfl))⟩
  f15 := Try.func97.trans (congrArg some (by kernel_rfl))
  f20 := ⟨Try.f106.name, by decide, Try.func106.trans (congrArg some (by kernel_rfl))⟩
  f21 := ⟨Try.f107.name, by decide, Try.func107.trans (congrArg some (by kernel_rfl))⟩
  f22 := ⟨Try.f108.name, by decide, Try.func108.trans (congrArg some (by kernel_rfl))⟩
  f23 := ⟨Try.f109.name, by decide, Try.func109.trans (congrArg some (by kernel_rfl))⟩
  f24 := ⟨Try.f110.name, by decide, Try.func110.trans (congrArg some (by kernel_rfl))⟩
  f25 := ⟨Try.f111.name, by decide, Try.func111.trans (congrArg some (by kernel_rfl))⟩
  f26 := ⟨Try.f112.name, by decide, Try.func112.trans (congrArg some (by kernel_rfl))⟩
  f27 := ⟨Try.f113.name, by decide, Try.func113.trans (congrArg some (by kernel_rfl))⟩
  f28 := Try.func114.trans (congrArg some (by kernel_rfl))
  f29 := Try.func115.trans (congrArg some (by kernel_rfl))
  f46 := ⟨Try.f129.name, by decide, Try.func129.trans (congrArg some (by kernel_rfl))⟩
  f47 := Try.func130.trans (congrArg some (by kernel_rfl))
  f48 := Try.func131.trans (congrArg some (by kernel_rfl))
  f49 := ⟨Try.f132.name, by decide, Try.func132.trans (congrArg some (by kernel_rfl))⟩
  f50 := ⟨Try.f133.name, by decide, Try.func133.trans (congrArg some (by kernel_rfl))⟩
  f57 := ⟨Try.f139.name, by decide, Try.func139.trans (congrArg some (by kernel_rfl))⟩
  t0 := Try.underlying0
  a0 := Try.isAgg0
  z0 := Try.sizeOf0
  v0 := Try.zeroValue0
  t3 := Try.underlying3
  a3 := Try.isAgg3
  z3 := Try.sizeOf3
  v3 := Try.zeroValue3
  t4 := Try.underlying4
  a4 := Try.isAgg4
  z4 := Try.sizeOf4
  v4 := Try.zeroValue4
  t5 := Try.underlying5
  a5 := Try.isAgg5
  z5 := Try.sizeOf5
  v5 := Try.zeroValue5
  t9 := Try.underlying9
  a9 := Try.isAgg9
  z9 := Try.sizeOf9
  v9 := Try.zeroValue9
  t22 := Try.underlying35
  a22 := Try.isAgg35
  z22 := Try.sizeOf35
  v22 := Try.zeroValue35
  t25 := Try.underlying81
  a25 := Try.isAgg81
  z25 := Try.sizeOf81
  v25 := Try.zeroValue81
  t39 := Try.underlying109
  a39 := Try.isAgg109
  z39 := Try.sizeOf109
  v39 := Try.zeroValue109
  t45 := Try.underlying127
  a45 := Try.isAgg127
  z45 := Try.sizeOf127
  v45 := Try.zeroValue127
  t46 := Try.underlying128
  a46 := Try.isAgg128
  z46 := Try.sizeOf128
  v46 := Try.zeroValue128
  t50 := Try.underlying68
  a50 := Try.isAgg68
  z50 := Try.sizeOf68
  v50 := Try.zeroValue68
  t53 := Try.underlying48
  a53 := Try.isAgg48
  z53 := Try.sizeOf48
  v53 := Try.zeroValue48
  t55 := Try.underlying135
  a55 := Try.isAgg135
  z55 := Try.sizeOf135
  v55 := Try.zeroValue135
  t66 := Try.underlying143
  a66 := Try.isAgg143
  z66 := Try.sizeOf143
  v66 := Try.zeroValue143
  t70 := Try.underlying147
  a70 := Try.isAgg147
  z70 := Try.sizeOf147
  v70 := Try.zeroValue147
  t76 := Try.underlying152
  a76 := Try.isAgg152
  z76 := Try.sizeOf152
  v76 := Try.zeroValue152
  t77 := Try.underlying115
  a77 := Try.isAgg115
  z77 := Try.sizeOf115
  v77 := Try.zeroValue115 }
end Go.Proofs
