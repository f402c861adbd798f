/-
  DERIVED: THE SHELF's CONTRACTS AT THIS DUMP, IN PLAIN WORDS (tools/lay-plain.mjs out of 'TryzSortLay.lean', which tools/lay-shelf.mjs wrote): THE SAME DECLARATIONS UNDER THE SAME NAMES: 'import', 'namespace', 'open', 'def', 'theorem' AND NOTHING ELSE: no command of the shelf's: FOR A HAND-IN. Each laying: the table of numbers ('.._ren') and one theorem, a field a fact of the dump's own or the kernel's comparison; each contract: ONE APPLICATION.
-/
import Derived.Shelf.SlSortCmp.WholeK
import Derived.Test.YtlmnkcfnihhlgaaGreatDoorProg
namespace Go.Proofs
open Go.Shelf
def Tryz.sortVal_ren : Go.Shelf.Ren := ⟨fun | 6 => 92 | 15 => 125 | 14 => 124 | 28 => 157 | 29 => 158 | 20 => 149 | 21 => 150 | 22 => 151 | 23 => 152 | 24 => 153 | 25 => 154 | 26 => 155 | 27 => 156 | 46 => 187 | 47 => 188 | 48 => 189 | 49 => 190 | 50 => 191 | 57 => 209 | n => n, fun | 22 => 26 | 24 => 28 | 25 => 45 | 3 => 3 | 39 => 64 | 0 => 0 | 53 => 157 | 55 => 58 | 4 => 4 | 46 => 151 | 45 => 150 | 50 => 103 | 5 => 5 | 9 => 9 | 66 => 183 | 70 => 186 | 76 => 204 | 77 => 205 | n => n, fun | n => n⟩
theorem Tryz.sortVal : Go.Proofs.SlLaysF0.n6 Tryz.prog Tryz.sortVal_ren := {
  mixed := by kernel_rfl
  f6 := ⟨Tryz.f92.name, by decide, Tryz.func92.trans (congrArg some (by kernel_rfl))⟩
  f14 := ⟨Tryz.f124.name, by decide, Tryz.func124.trans (congrArg some (by kernel_rfl))⟩
  f15 := Tryz.func125.trans (congrArg some (by kernel_rfl))
  f20 := ⟨Tryz.f149.name, by decide, Tryz.func149.trans (congrArg some (by kernel_rfl))⟩
  f21 := ⟨Tryz.f150.name, by decide, Tryz.func150.trans (congrArg some (by kernel_rfl))⟩
  f22 := ⟨Tryz.f151.name, by decide, Tryz.func151.trans (congrArg some (by kernel_rfl))⟩
  f23 := ⟨Tryz.f152.name, by decide, Tryz.func152.trans (congrArg some (by kernel_rfl))⟩
  f24 := ⟨Tryz.f153.name, by decide, Tryz.func153.trans (congrArg some (by kernel_rfl))⟩
  f25 := ⟨Tryz.f154.name, by decide, Tryz.func154.trans (congrArg some (by kernel_rfl))⟩
  f26 := ⟨Tryz.f155.name, by decide, Tryz.func155.trans (congrArg some (by kernel_rfl))⟩
  f27 := ⟨Tryz.f156.name, by decide, Tryz.func156.trans (congrArg some (by kernel_rfl))⟩
  f28 := Tryz.func157.trans (congrArg some (by kernel_rfl))
  f29 := Tryz.func158.trans (congrArg some (by kernel_rfl))
  f46 := ⟨Tryz.f187.name, by decide, Tryz.func187.trans (congrArg some (by kernel_rfl))⟩
  f47 := Tryz.func188.trans (congrArg some (by kernel_rfl))
  f48 := Tryz.func189.trans (congrArg some (by kernel_rfl))
  f49 := ⟨Tryz.f190.name, by decide, Tryz.func190.trans (congrArg some (by kernel_rfl))⟩
  f50 := ⟨Tryz.f191.name, by decide, Tryz.func191.trans (congrArg some (by kernel_rfl))⟩
  f57 := ⟨Tryz.f209.name, by decide, Tryz.func209.trans (congrArg some (by kernel_rfl))⟩
  t0 := Tryz.underlying0
  a0 := Tryz.isAgg0
  z0 := Tryz.sizeOf0
  v0 := Tryz.zeroValue0
  t3 := Tryz.underlying3
  a3 := Tryz.isAgg3
  z3 := Tryz.sizeOf3
  v3 := Tryz.zeroValue3
  t4 := Tryz.underlying4
  a4 := Tryz.isAgg4
  z4 := Tryz.sizeOf4
  v4 := Tryz.zeroValue4
  t5 := Tryz.underlying5
  a5 := Tryz.isAgg5
  z5 := Tryz.sizeOf5
  v5 := Tryz.zeroValue5
  t9 := Tryz.underlying9
  a9 := Tryz.isAgg9
  z9 := Tryz.sizeOf9
  v9 := Tryz.zeroValue9
  t22 := Tryz.underlying26
  a22 := Tryz.isAgg26
  z22 := Tryz.sizeOf26
  v22 := Tryz.zeroValue26
  t25 := Tryz.underlying45
  a25 := Tryz.isAgg45
  z25 := Tryz.sizeOf45
  v25 := Tryz.zeroValue45
  t39 := Tryz.underlying64
  a39 := Tryz.isAgg64
  z39 := Tryz.sizeOf64
  v39 := Tryz.zeroValue64
  t45 := Tryz.underlying150
  a45 := Tryz.isAgg150
  z45 := Tryz.sizeOf150
  v45 := Tryz.zeroValue150
  t46 := Tryz.underlying151
  a46 := Tryz.isAgg151
  z46 := Tryz.sizeOf151
  v46 := Tryz.zeroValue151
  t50 := Tryz.underlying103
  a50 := Tryz.isAgg103
  z50 := Tryz.sizeOf103
  v50 := Tryz.zeroValue103
  t53 := Tryz.underlying157
  a53 := Tryz.isAgg157
  z53 := Tryz.sizeOf157
  v53 := Tryz.zeroValue157
  t55 := Tryz.underlying58
  a55 := Tryz.isAgg58
  z55 := Tryz.sizeOf58
  v55 := Tryz.zeroValue58
  t66 := Tryz.underlying183
  a66 := Tryz.isAgg183
  z66 := Tryz.sizeOf183
  v66 := Tryz.zeroValue183
  t70 := Tryz.underlying186
  a70 := Tryz.isAgg186
  z70 := Tryz.sizeOf186
  v70 := Tryz.zeroValue186
  t76 := Tryz.underlying204
  a76 := Tryz.isAgg204
  z76 := Tryz.sizeOf204
  v76 := Tryz.zeroValue204
  t77 := Tryz.underlying205
  a77 := Tryz.isAgg205
  z77 := Tryz.sizeOf205
  v77 := Tryz.zeroValue205 }
end Go.Proofs
