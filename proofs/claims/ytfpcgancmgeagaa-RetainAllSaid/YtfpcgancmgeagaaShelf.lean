/-
  DERIVED: THE SHELF's CONTRACTS AT THIS DUMP, IN PLAIN WORDS (tools/lay-plain.mjs out of 'YtfpcgancmgeagaaShelf.lean', which tools/lay-shelf.mjs wrote): THE SAME DECLARATIONS UNDER THE SAME NAMES: 'import', 'namespace', 'open', 'def', 'theorem' AND NOTHING ELSE: no command of the shelf's: FOR A HAND-IN. Each laying: the table of numbers ('.._ren') and one theorem, a field a fact of the dump's own or the kernel's comparison; each contract: ONE APPLICATION.
-/
import Derived.Shelf.SlGeneric
import Derived.Ground.SlgnProg
import Derived.Shelf.SortG.Plain
import Derived.Shelf.SortG.SortNone
import Derived.Shelf.SlicesG.Reverse
import Derived.Shelf.SlicesG.CompactI
import Derived.Test.YtfpcgancmgeagaaProg
namespace Go.Proofs
open Go.Shelf
def Try.sortI64_ren : Go.Shelf.Ren := ⟨fun | 53 => 42 | 64 => 74 | 63 => 73 | 78 => 110 | 79 => 111 | 70 => 101 | 71 => 102 | 72 => 103 | 73 => 104 | 74 => 105 | 75 => 106 | 59 => 107 | 76 => 108 | 77 => 109 | 88 => 135 | 89 => 136 | 90 => 137 | 91 => 138 | 92 => 139 | 68 => 114 | 96 => 149 | n => n, fun | 22 => 33 | 23 => 2 | 3 => 3 | 51 => 99 | 0 => 0 | 67 => 159 | 69 => 49 | 4 => 4 | 61 => 152 | 60 => 151 | 44 => 156 | 5 => 5 | 9 => 9 | 75 => 184 | 79 => 188 | 83 => 202 | 84 => 203 | n => n, fun | n => n⟩
theorem Try.sortI64 : Go.Proofs.SlLaysN.n53 Try.prog Try.sortI64_ren := {
  mixed := by kernel_rfl
  f53 := ⟨Try.f42.name, by decide, Try.func42.trans (congrArg some (by kernel_rfl))⟩
  f59 := ⟨Try.f107.name, by decide, Try.func107.trans (congrArg some (by kernel_rfl))⟩
  f63 := ⟨Try.f73.name, by decide, Try.func73.trans (congrArg some (by kernel_rfl))⟩
  f64 := Try.func74.trans (congrArg some (by kernel_rfl))
  f68 := ⟨Try.f114.name, by decide, Try.func114.trans (congrArg some (by kernel_rfl))⟩
  f70 := ⟨Try.f101.name, by decide, Try.func101.trans (congrArg some (by kernel_rfl))⟩
  f71 := ⟨Try.f102.name, by decide, Try.func102.trans (congrArg some (by kernel_rfl))⟩
  f72 := ⟨Try.f103.name, by decide, Try.func103.trans (congrArg some (by kernel_rfl))⟩
  f73 := ⟨Try.f104.name, by decide, Try.func104.trans (congrArg some (by kernel_rfl))⟩
  f74 := ⟨Try.f105.name, by decide, Try.func105.trans (congrArg some (by kernel_rfl))⟩
  f75 := ⟨Try.f106.name, by decide, Try.func106.trans (congrArg some (by kernel_rfl))⟩
  f76 := ⟨Try.f108.name, by decide, Try.func108.trans (congrArg some (by kernel_rfl))⟩
  f77 := ⟨Try.f109.name, by decide, Try.func109.trans (congrArg some (by kernel_rfl))⟩
  f78 := Try.func110.trans (congrArg some (by kernel_rfl))
  f79 := Try.func111.trans (congrArg some (by kernel_rfl))
  f88 := ⟨Try.f135.name, by decide, Try.func135.trans (congrArg some (by kernel_rfl))⟩
  f89 := Try.func136.trans (congrArg some (by kernel_rfl))
  f90 := Try.func137.trans (congrArg some (by kernel_rfl))
  f91 := ⟨Try.f138.name, by decide, Try.func138.trans (congrArg some (by kernel_rfl))⟩
  f92 := ⟨Try.f139.name, by decide, Try.func139.trans (congrArg some (by kernel_rfl))⟩
  f96 := ⟨Try.f149.name, by decide, Try.func149.trans (congrArg some (by kernel_rfl))⟩
  t0 := Try.underlying0
  a0 := Try.isAgg0
  z0 := Try.sizeOf0
  v0 := Try.zeroValue0
  t3 := Try.underlying3
  a3 := Try.isAgg3
  z3 := Try.sizeOf3
  v3 := Try.zeroValue3
  t4 := Try.underlying4
  a4 := Try.isAgg4
  z4 := Try.sizeOf4
  v4 := Try.zeroValue4
  t5 := Try.underlying5
  a5 := Try.isAgg5
  z5 := Try.sizeOf5
  v5 := Try.zeroValue5
  t9 := Try.underlying9
  a9 := Try.isAgg9
  z9 := Try.sizeOf9
  v9 := Try.zeroValue9
  t22 := Try.underlying33
  a22 := Try.isAgg33
  z22 := Try.sizeOf33
  v22 := Try.zeroValue33
  t23 := Try.underlying2
  a23 := Try.isAgg2
  z23 := Try.sizeOf2
  v23 := Try.zeroValue2
  t44 := Try.underlying156
  a44 := Try.isAgg156
  z44 := Try.sizeOf156
  v44 := Try.zeroValue156
  t51 := Try.underlying99
  a51 := Try.isAgg99
  z51 := Try.sizeOf99
  v51 := Try.zeroValue99
  t60 := Try.underlying151
  a60 := Try.isAgg151
  z60 := Try.sizeOf151
  v60 := Try.zeroValue151
  t61 := Try.underlying152
  a61 := Try.isAgg152
  z61 := Try.sizeOf152
  v61 := Try.zeroValue152
  t67 := Try.underlying159
  a67 := Try.isAgg159
  z67 := Try.sizeOf159
  v67 := Try.zeroValue159
  t69 := Try.underlying49
  a69 := Try.isAgg49
  z69 := Try.sizeOf49
  v69 := Try.zeroValue49
  t75 := Try.underlying184
  a75 := Try.isAgg184
  z75 := Try.sizeOf184
  v75 := Try.zeroValue184
  t79 := Try.underlying188
  a79 := Try.isAgg188
  z79 := Try.sizeOf188
  v79 := Try.zeroValue188
  t83 := Try.underlying202
  a83 := Try.isAgg202
  z83 := Try.sizeOf202
  v83 := Try.zeroValue202
  t84 := Try.underlying203
  a84 := Try.isAgg203
  z84 := Try.sizeOf203
  v84 := Try.zeroValue203 }
def Try.revI64_ren : Go.Shelf.Ren := ⟨fun | 35 => 43 | n => n, fun | 22 => 33 | 23 => 2 | 3 => 3 | 4 => 4 | 0 => 0 | n => n, fun | n => n⟩
theorem Try.revI64 : Go.Proofs.SlLaysN.n35 Try.prog Try.revI64_ren := {
  mixed := by kernel_rfl
  f35 := ⟨Try.f43.name, by decide, Try.func43.trans (congrArg some (by kernel_rfl))⟩
  t0 := Try.underlying0
  a0 := Try.isAgg0
  z0 := Try.sizeOf0
  v0 := Try.zeroValue0
  t3 := Try.underlying3
  a3 := Try.isAgg3
  z3 := Try.sizeOf3
  v3 := Try.zeroValue3
  t4 := Try.underlying4
  a4 := Try.isAgg4
  z4 := Try.sizeOf4
  v4 := Try.zeroValue4
  t22 := Try.underlying33
  a22 := Try.isAgg33
  z22 := Try.sizeOf33
  v22 := Try.zeroValue33
  t23 := Try.underlying2
  a23 := Try.isAgg2
  z23 := Try.sizeOf2
  v23 := Try.zeroValue2 }
def Try.compactI64_ren : Go.Shelf.Ren := ⟨fun | 43 => 44 | n => n, fun | 22 => 33 | 23 => 2 | 3 => 3 | 4 => 4 | 0 => 0 | n => n, fun | n => n⟩
theorem Try.compactI64 : Go.Proofs.SlLaysN.n43 Try.prog Try.compactI64_ren := {
  mixed := by kernel_rfl
  f43 := ⟨Try.f44.name, by decide, Try.func44.trans (congrArg some (by kernel_rfl))⟩
  t0 := Try.underlying0
  a0 := Try.isAgg0
  z0 := Try.sizeOf0
  v0 := Try.zeroValue0
  t3 := Try.underlying3
  a3 := Try.isAgg3
  z3 := Try.sizeOf3
  v3 := Try.zeroValue3
  t4 := Try.underlying4
  a4 := Try.isAgg4
  z4 := Try.sizeOf4
  v4 := Try.zeroValue4
  t22 := Try.underlying33
  a22 := Try.isAgg33
  z22 := Try.sizeOf33
  v22 := Try.zeroValue33
  t23 := Try.underlying2
  a23 := Try.isAgg2
  z23 := Try.sizeOf2
  v23 := Try.zeroValue2
  i23 := by kernel_rfl }
end Go.Proofs
