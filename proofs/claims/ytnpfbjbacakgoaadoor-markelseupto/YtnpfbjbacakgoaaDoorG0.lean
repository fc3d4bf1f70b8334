/-
  What the functions compute that the law of this claim reaches. By an AI agent.
-/
import Derived.Test.YtnpfbjbacakgoaaDoorProg
import Derived.Shelf.Strconv.Itoa3
import Derived.Shelf.Pu.ErrVarParseUint
import Derived.Test.YtnpfbjbacakgoaaDoorChecked
import Derived.Lib.ItoaLen
import Derived.Lib.AppendIntMem
import Derived.Test.YtnpfbjbacakgoaaDoorTn0
import Derived.Test.YtnpfbjbacakgoaaDoorTn1
import Derived.Test.YtnpfbjbacakgoaaDoorTn2
import Derived.Test.YtnpfbjbacakgoaaDoorTn3
import Derived.Test.YtnpfbjbacakgoaaDoorTn4
import Derived.Test.YtnpfbjbacakgoaaDoorTn5
import Derived.Test.YtnpfbjbacakgoaaDoorTn6
import Derived.Test.YtnpfbjbacakgoaaDoorTn7
import Derived.Test.YtnpfbjbacakgoaaDoorTn8
import Derived.Test.YtnpfbjbacakgoaaDoorTn9
import Derived.Test.YtnpfbjbacakgoaaDoorTn10
import Derived.Test.YtnpfbjbacakgoaaDoorTn11
import Derived.Test.YtnpfbjbacakgoaaDoorTn12
import Derived.Test.YtnpfbjbacakgoaaDoorTn13
import Derived.Test.YtnpfbjbacakgoaaDoorTn14
import Derived.Test.YtnpfbjbacakgoaaDoorTh
import Derived.Test.YtnpfbjbacakgoaaDoorTn15
import Derived.Test.YtnpfbjbacakgoaaDoorTM
import Derived.Test.YtnpfbjbacakgoaaDoorTv
import Derived.Test.YtnpfbjbacakgoaaDoorTo
import Derived.Test.YtnpfbjbacakgoaaDoorTnv
import Derived.Test.YtnpfbjbacakgoaaDoorTn16
import Derived.Test.YtnpfbjbacakgoaaDoorTn17
import Derived.Test.YtnpfbjbacakgoaaDoorTn18
import Derived.Test.YtnpfbjbacakgoaaDoorTn19
import Derived.Test.YtnpfbjbacakgoaaDoorTn20
import Derived.Test.YtnpfbjbacakgoaaDoorTz
import Derived.Test.YtnpfbjbacakgoaaDoorTt
import Derived.Test.YtnpfbjbacakgoaaDoorTza
import Derived.Test.YtnpfbjbacakgoaaDoorTzb
import Derived.Test.YtnpfbjbacakgoaaDoorTn21
import Derived.Test.YtnpfbjbacakgoaaDoorTn23
import Derived.Test.YtnpfbjbacakgoaaDoorTn24
import Derived.Test.YtnpfbjbacakgoaaDoorTn25
import Derived.Test.YtnpfbjbacakgoaaDoorTn26
import Derived.Test.YtnpfbjbacakgoaaDoorTn27
import Derived.Test.YtnpfbjbacakgoaaDoorTzc
import Derived.Test.YtnpfbjbacakgoaaDoorTn28
import Derived.Test.YtnpfbjbacakgoaaDoorTn29
import Derived.Test.YtnpfbjbacakgoaaDoorTn30
import Derived.Test.YtnpfbjbacakgoaaDoorTe
import Derived.Test.YtnpfbjbacakgoaaDoorTj
import Derived.Test.YtnpfbjbacakgoaaDoorTbb
import Derived.Test.YtnpfbjbacakgoaaDoorTbc
set_option linter.unusedSimpArgs false
set_option linter.unusedVariables false
set_option linter.unusedSectionVars false

/- The types that the program uses, read off its table. -/
namespace Go.Proofs.YtnpfbjbacakgoaaDoor
open Go.Tn
theorem y1 : tyOf Tryd.prog 1 = ⟨.func, [.nilFunc], [], 0, 0, false, 0, 8⟩ := by kernel_rfl
theorem y2 : tyOf Tryd.prog 2 = ⟨(.int .i64), [(.int .i64 0)], [], 0, 0, false, 0, 8⟩ := by kernel_rfl
theorem y3 : tyOf Tryd.prog 3 = ⟨(.int .i64), [(.int .i64 0)], [], 0, 0, false, 0, 8⟩ := by kernel_rfl
theorem y4 : tyOf Tryd.prog 4 = ⟨.bool, [(.bool false)], [], 0, 0, false, 0, 1⟩ := by kernel_rfl
theorem y5 : tyOf Tryd.prog 5 = ⟨(.int .u8), [(.int .u8 0)], [], 0, 0, false, 0, 1⟩ := by kernel_rfl
theorem y6 : tyOf Tryd.prog 6 = ⟨(.int .u8), [(.int .u8 0)], [], 0, 0, false, 0, 1⟩ := by kernel_rfl
theorem y7 : tyOf Tryd.prog 7 = ⟨.struct, [(.int .i64 0), (.int .i64 0), (.bool false), (.int .u8 0)], [(0, 1, false), (1, 1, false), (2, 1, false), (3, 1, false)], 0, 0, true, 0, 24⟩ := by kernel_rfl
theorem y8 : tyOf Tryd.prog 8 = ⟨.struct, [(.int .i64 0), (.int .i64 0), (.bool false), (.int .u8 0)], [(0, 1, false), (1, 1, false), (2, 1, false), (3, 1, false)], 0, 0, true, 0, 24⟩ := by kernel_rfl
theorem y9 : tyOf Tryd.prog 9 = ⟨.str, [(.string ⟨#[]⟩)], [], 0, 0, false, 0, 16⟩ := by kernel_rfl
theorem y10 : tyOf Tryd.prog 10 = ⟨.str, [(.string ⟨#[]⟩)], [], 0, 0, false, 0, 16⟩ := by kernel_rfl
theorem y11 : tyOf Tryd.prog 11 = ⟨.str, [(.string ⟨#[]⟩)], [], 0, 0, false, 0, 16⟩ := by kernel_rfl
theorem y12 : tyOf Tryd.prog 12 = ⟨(.int .u64), [(.int .u64 0)], [], 0, 0, false, 0, 8⟩ := by kernel_rfl
theorem y13 : tyOf Tryd.prog 13 = ⟨.struct, [(.string ⟨#[]⟩), (.int .u64 0)], [(0, 1, false), (1, 1, false)], 0, 0, false, 0, 24⟩ := by kernel_rfl
theorem y14 : tyOf Tryd.prog 14 = ⟨.struct, [(.string ⟨#[]⟩), (.int .u64 0)], [(0, 1, false), (1, 1, false)], 0, 0, false, 0, 24⟩ := by kernel_rfl
theorem y15 : tyOf Tryd.prog 15 = ⟨.ptr, [(.pointer none)], [], 104, 0, false, 0, 8⟩ := by kernel_rfl
theorem y16 : tyOf Tryd.prog 16 = ⟨.ptr, [(.pointer none)], [], 107, 0, false, 0, 8⟩ := by kernel_rfl
theorem y17 : tyOf Tryd.prog 17 = ⟨.ptr, [(.pointer none)], [], 115, 0, false, 0, 8⟩ := by kernel_rfl
theorem y18 : tyOf Tryd.prog 18 = ⟨.struct, [(.pointer none)], [(0, 1, false)], 0, 0, false, 0, 8⟩ := by kernel_rfl
theorem y19 : tyOf Tryd.prog 19 = ⟨.struct, [(.pointer none)], [(0, 1, false)], 0, 0, false, 0, 8⟩ := by kernel_rfl
theorem y20 : tyOf Tryd.prog 20 = ⟨.iface, [.nilIface], [], 0, 0, false, 0, 16⟩ := by kernel_rfl
theorem y21 : tyOf Tryd.prog 21 = ⟨(.int .i32), [(.int .i32 0)], [], 0, 0, false, 0, 4⟩ := by kernel_rfl
theorem y22 : tyOf Tryd.prog 22 = ⟨.slice, [(.slice none 0 0)], [], 9, 1, false, 0, 24⟩ := by kernel_rfl
theorem y23 : tyOf Tryd.prog 23 = ⟨.slice, [(.slice none 0 0)], [], 22, 1, false, 0, 24⟩ := by kernel_rfl
theorem y24 : tyOf Tryd.prog 24 = ⟨.struct, [(.slice none 0 0), (.slice none 0 0)], [(0, 1, false), (1, 1, false)], 0, 0, false, 0, 48⟩ := by kernel_rfl
theorem y25 : tyOf Tryd.prog 25 = ⟨.struct, [(.slice none 0 0), (.slice none 0 0)], [(0, 1, false), (1, 1, false)], 0, 0, false, 0, 48⟩ := by kernel_rfl
theorem y26 : tyOf Tryd.prog 26 = ⟨.slice, [(.slice none 0 0)], [], 32, 6, true, 0, 24⟩ := by kernel_rfl
theorem y27 : tyOf Tryd.prog 27 = ⟨.func, [.nilFunc], [], 0, 0, false, 0, 8⟩ := by kernel_rfl
theorem y28 : tyOf Tryd.prog 28 = ⟨.func, [.nilFunc], [], 0, 0, false, 0, 8⟩ := by kernel_rfl
theorem y29 : tyOf Tryd.prog 29 = ⟨.func, [.nilFunc], [], 0, 0, false, 0, 8⟩ := by kernel_rfl
theorem y30 : tyOf Tryd.prog 30 = ⟨.func, [.nilFunc], [], 0, 0, false, 0, 8⟩ := by kernel_rfl
theorem y31 : tyOf Tryd.prog 31 = ⟨.struct, [(.int .i64 0), (.int .i64 0), (.string ⟨#[]⟩), (.string ⟨#[]⟩), (.string ⟨#[]⟩), (.string ⟨#[]⟩)], [(0, 1, false), (1, 1, false), (2, 1, false), (3, 1, false), (4, 1, false), (5, 1, false)], 0, 0, true, 0, 80⟩ := by kernel_rfl
theorem y32 : tyOf Tryd.prog 32 = ⟨.struct, [(.int .i64 0), (.int .i64 0), (.string ⟨#[]⟩), (.string ⟨#[]⟩), (.string ⟨#[]⟩), (.string ⟨#[]⟩)], [(0, 1, false), (1, 1, false), (2, 1, false), (3, 1, false), (4, 1, false), (5, 1, false)], 0, 0, true, 0, 80⟩ := by kernel_rfl
theorem y33 : tyOf Tryd.prog 33 = ⟨.func, [.nilFunc], [], 0, 0, false, 0, 8⟩ := by kernel_rfl
theorem y34 : tyOf Tryd.prog 34 = ⟨.func, [.nilFunc], [], 0, 0, false, 0, 8⟩ := by kernel_rfl
theorem y35 : tyOf Tryd.prog 35 = ⟨.func, [.nilFunc], [], 0, 0, false, 0, 8⟩ := by kernel_rfl
theorem y36 : tyOf Tryd.prog 36 = ⟨.func, [.nilFunc], [], 0, 0, false, 0, 8⟩ := by kernel_rfl
theorem y37 : tyOf Tryd.prog 37 = ⟨(.int .i64), [(.int .i64 0)], [], 0, 0, false, 0, 8⟩ := by kernel_rfl
theorem y39 : tyOf Tryd.prog 39 = ⟨.func, [.nilFunc], [], 0, 0, false, 0, 8⟩ := by kernel_rfl
theorem y41 : tyOf Tryd.prog 41 = ⟨.func, [.nilFunc], [], 0, 0, false, 0, 8⟩ := by kernel_rfl
theorem y42 : tyOf Tryd.prog 42 = ⟨.func, [.nilFunc], [], 0, 0, false, 0, 8⟩ := by kernel_rfl
theorem y43 : tyOf Tryd.prog 43 = ⟨.func, [.nilFunc], [], 0, 0, false, 0, 8⟩ := by kernel_rfl
theorem y44 : tyOf Tryd.prog 44 = ⟨.func, [.nilFunc], [], 0, 0, false, 0, 8⟩ := by kernel_rfl
theorem y45 : tyOf Tryd.prog 45 = ⟨.func, [.nilFunc], [], 0, 0, false, 0, 8⟩ := by kernel_rfl
theorem y46 : tyOf Tryd.prog 46 = ⟨.func, [.nilFunc], [], 0, 0, false, 0, 8⟩ := by kernel_rfl
theorem y47 : tyOf Tryd.prog 47 = ⟨.func, [.nilFunc], [], 0, 0, false, 0, 8⟩ := by kernel_rfl
theorem y48 : tyOf Tryd.prog 48 = ⟨.func, [.nilFunc], [], 0, 0, false, 0, 8⟩ := by kernel_rfl
theorem y49 : tyOf Tryd.prog 49 = ⟨.func, [.nilFunc], [], 0, 0, false, 0, 8⟩ := by kernel_rfl
theorem y50 : tyOf Tryd.prog 50 = ⟨.func, [.nilFunc], [], 0, 0, false, 0, 8⟩ := by kernel_rfl
theorem y51 : tyOf Tryd.prog 51 = ⟨.func, [.nilFunc], [], 0, 0, false, 0, 8⟩ := by kernel_rfl
theorem y52 : tyOf Tryd.prog 52 = ⟨.struct, [(.slice none 0 0), (.slice none 0 0), (.int .i64 0), (.int .i64 0)], [(0, 2, true), (2, 1, false), (3, 1, false)], 0, 0, false, 0, 64⟩ := by kernel_rfl
theorem y53 : tyOf Tryd.prog 53 = ⟨.struct, [(.slice none 0 0), (.slice none 0 0), (.int .i64 0), (.int .i64 0)], [(0, 2, true), (2, 1, false), (3, 1, false)], 0, 0, false, 0, 64⟩ := by kernel_rfl
theorem y54 : tyOf Tryd.prog 54 = ⟨.func, [.nilFunc], [], 0, 0, false, 0, 8⟩ := by kernel_rfl
theorem y55 : tyOf Tryd.prog 55 = ⟨.func, [.nilFunc], [], 0, 0, false, 0, 8⟩ := by kernel_rfl
theorem y56 : tyOf Tryd.prog 56 = ⟨.func, [.nilFunc], [], 0, 0, false, 0, 8⟩ := by kernel_rfl
theorem y57 : tyOf Tryd.prog 57 = ⟨.func, [.nilFunc], [], 0, 0, false, 0, 8⟩ := by kernel_rfl
theorem y58 : tyOf Tryd.prog 58 = ⟨.func, [.nilFunc], [], 0, 0, false, 0, 8⟩ := by kernel_rfl
theorem y59 : tyOf Tryd.prog 59 = ⟨(.int .u64), [(.int .u64 0)], [], 0, 0, false, 0, 8⟩ := by kernel_rfl
theorem y60 : tyOf Tryd.prog 60 = ⟨.iface, [.nilIface], [], 0, 0, false, 0, 16⟩ := by kernel_rfl
theorem y61 : tyOf Tryd.prog 61 = ⟨.iface, [.nilIface], [], 0, 0, false, 0, 16⟩ := by kernel_rfl
theorem y63 : tyOf Tryd.prog 63 = ⟨.func, [.nilFunc], [], 0, 0, false, 0, 8⟩ := by kernel_rfl
theorem y64 : tyOf Tryd.prog 64 = ⟨.func, [.nilFunc], [], 0, 0, false, 0, 8⟩ := by kernel_rfl
theorem y65 : tyOf Tryd.prog 65 = ⟨.func, [.nilFunc], [], 0, 0, false, 0, 8⟩ := by kernel_rfl
theorem y66 : tyOf Tryd.prog 66 = ⟨.func, [.nilFunc], [], 0, 0, false, 0, 8⟩ := by kernel_rfl
theorem y67 : tyOf Tryd.prog 67 = ⟨.func, [.nilFunc], [], 0, 0, false, 0, 8⟩ := by kernel_rfl
theorem y68 : tyOf Tryd.prog 68 = ⟨.slice, [(.slice none 0 0)], [], 5, 1, false, 0, 24⟩ := by kernel_rfl
theorem y69 : tyOf Tryd.prog 69 = ⟨.func, [.nilFunc], [], 0, 0, false, 0, 8⟩ := by kernel_rfl
theorem y70 : tyOf Tryd.prog 70 = ⟨.array, [(.string ⟨#[]⟩), (.string ⟨#[]⟩), (.string ⟨#[]⟩), (.string ⟨#[]⟩), (.string ⟨#[]⟩), (.string ⟨#[]⟩)], [], 9, 1, false, 6, 96⟩ := by kernel_rfl
theorem y71 : tyOf Tryd.prog 71 = ⟨(.int .i64), [(.int .i64 0)], [], 0, 0, false, 0, 8⟩ := by kernel_rfl
theorem y72 : tyOf Tryd.prog 72 = ⟨.func, [.nilFunc], [], 0, 0, false, 0, 8⟩ := by kernel_rfl
theorem y73 : tyOf Tryd.prog 73 = ⟨(.int .u64), [(.int .u64 0)], [], 0, 0, false, 0, 8⟩ := by kernel_rfl
theorem y74 : tyOf Tryd.prog 74 = ⟨.func, [.nilFunc], [], 0, 0, false, 0, 8⟩ := by kernel_rfl
theorem y75 : tyOf Tryd.prog 75 = ⟨.ptr, [(.pointer none)], [], 80, 0, false, 0, 8⟩ := by kernel_rfl
theorem y76 : tyOf Tryd.prog 76 = ⟨.func, [.nilFunc], [], 0, 0, false, 0, 8⟩ := by kernel_rfl
theorem y77 : tyOf Tryd.prog 77 = ⟨.func, [.nilFunc], [], 0, 0, false, 0, 8⟩ := by kernel_rfl
theorem y78 : tyOf Tryd.prog 78 = ⟨.func, [.nilFunc], [], 0, 0, false, 0, 8⟩ := by kernel_rfl
theorem y79 : tyOf Tryd.prog 79 = ⟨.struct, [(.string ⟨#[]⟩), (.string ⟨#[]⟩), .nilIface], [(0, 1, false), (1, 1, false), (2, 1, false)], 0, 0, false, 0, 48⟩ := by kernel_rfl
theorem y80 : tyOf Tryd.prog 80 = ⟨.struct, [(.string ⟨#[]⟩), (.string ⟨#[]⟩), .nilIface], [(0, 1, false), (1, 1, false), (2, 1, false)], 0, 0, false, 0, 48⟩ := by kernel_rfl
theorem y81 : tyOf Tryd.prog 81 = ⟨.func, [.nilFunc], [], 0, 0, false, 0, 8⟩ := by kernel_rfl
theorem y82 : tyOf Tryd.prog 82 = ⟨.func, [.nilFunc], [], 0, 0, false, 0, 8⟩ := by kernel_rfl
theorem y83 : tyOf Tryd.prog 83 = ⟨.ptr, [(.pointer none)], [], 5, 0, false, 0, 8⟩ := by kernel_rfl
theorem y84 : tyOf Tryd.prog 84 = ⟨.ptr, [(.pointer none)], [], 86, 0, false, 0, 8⟩ := by kernel_rfl
theorem y85 : tyOf Tryd.prog 85 = ⟨.struct, [(.string ⟨#[]⟩)], [(0, 1, false)], 0, 0, true, 0, 16⟩ := by kernel_rfl
theorem y86 : tyOf Tryd.prog 86 = ⟨.struct, [(.string ⟨#[]⟩)], [(0, 1, false)], 0, 0, true, 0, 16⟩ := by kernel_rfl
theorem y87 : tyOf Tryd.prog 87 = ⟨.array, [(.int .u8 0), (.int .u8 0), (.int .u8 0), (.int .u8 0), (.int .u8 0), (.int .u8 0), (.int .u8 0), (.int .u8 0), (.int .u8 0), (.int .u8 0), (.int .u8 0), (.int .u8 0), (.int .u8 0), (.int .u8 0), (.int .u8 0), (.int .u8 0), (.int .u8 0), (.int .u8 0), (.int .u8 0), (.int .u8 0), (.int .u8 0), (.int .u8 0), (.int .u8 0), (.int .u8 0)], [], 5, 1, false, 24, 24⟩ := by kernel_rfl
theorem y88 : tyOf Tryd.prog 88 = ⟨.func, [.nilFunc], [], 0, 0, false, 0, 8⟩ := by kernel_rfl
theorem y89 : tyOf Tryd.prog 89 = ⟨.func, [.nilFunc], [], 0, 0, false, 0, 8⟩ := by kernel_rfl
theorem y91 : tyOf Tryd.prog 91 = ⟨.func, [.nilFunc], [], 0, 0, false, 0, 8⟩ := by kernel_rfl
theorem y92 : tyOf Tryd.prog 92 = ⟨.func, [.nilFunc], [], 0, 0, false, 0, 8⟩ := by kernel_rfl
theorem y93 : tyOf Tryd.prog 93 = ⟨.func, [.nilFunc], [], 0, 0, false, 0, 8⟩ := by kernel_rfl
theorem y94 : tyOf Tryd.prog 94 = ⟨.array, [(.int .u64 0), (.int .u64 0), (.int .u64 0), (.int .u64 0), (.int .u64 0), (.int .u64 0), (.int .u64 0), (.int .u64 0), (.int .u64 0), (.int .u64 0), (.int .u64 0), (.int .u64 0), (.int .u64 0), (.int .u64 0), (.int .u64 0), (.int .u64 0), (.int .u64 0), (.int .u64 0), (.int .u64 0), (.int .u64 0)], [], 59, 1, false, 20, 160⟩ := by kernel_rfl
theorem y95 : tyOf Tryd.prog 95 = ⟨(.int .u32), [(.int .u32 0)], [], 0, 0, false, 0, 4⟩ := by kernel_rfl
theorem y96 : tyOf Tryd.prog 96 = ⟨.array, [(.int .u8 0), (.int .u8 0), (.int .u8 0), (.int .u8 0), (.int .u8 0), (.int .u8 0), (.int .u8 0), (.int .u8 0), (.int .u8 0), (.int .u8 0), (.int .u8 0), (.int .u8 0), (.int .u8 0), (.int .u8 0), (.int .u8 0), (.int .u8 0), (.int .u8 0), (.int .u8 0), (.int .u8 0), (.int .u8 0), (.int .u8 0), (.int .u8 0), (.int .u8 0), (.int .u8 0), (.int .u8 0), (.int .u8 0), (.int .u8 0), (.int .u8 0), (.int .u8 0), (.int .u8 0), (.int .u8 0), (.int .u8 0), (.int .u8 0), (.int .u8 0), (.int .u8 0), (.int .u8 0), (.int .u8 0), (.int .u8 0), (.int .u8 0), (.int .u8 0), (.int .u8 0), (.int .u8 0), (.int .u8 0), (.int .u8 0), (.int .u8 0), (.int .u8 0), (.int .u8 0), (.int .u8 0), (.int .u8 0), (.int .u8 0), (.int .u8 0), (.int .u8 0), (.int .u8 0), (.int .u8 0), (.int .u8 0), (.int .u8 0), (.int .u8 0), (.int .u8 0), (.int .u8 0), (.int .u8 0), (.int .u8 0), (.int .u8 0), (.int .u8 0), (.int .u8 0), (.int .u8 0)], [], 5, 1, false, 65, 65⟩ := by kernel_rfl
theorem y97 : tyOf Tryd.prog 97 = ⟨.func, [.nilFunc], [], 0, 0, false, 0, 8⟩ := by kernel_rfl
theorem y98 : tyOf Tryd.prog 98 = ⟨.func, [.nilFunc], [], 0, 0, false, 0, 8⟩ := by kernel_rfl
theorem y99 : tyOf Tryd.prog 99 = ⟨.func, [.nilFunc], [], 0, 0, false, 0, 8⟩ := by kernel_rfl
theorem y100 : tyOf Tryd.prog 100 = ⟨.array, [(.int .u8 0), (.int .u8 0), (.int .u8 0), (.int .u8 0), (.int .u8 0), (.int .u8 0), (.int .u8 0), (.int .u8 0), (.int .u8 0), (.int .u8 0), (.int .u8 0), (.int .u8 0), (.int .u8 0), (.int .u8 0), (.int .u8 0), (.int .u8 0), (.int .u8 0), (.int .u8 0), (.int .u8 0), (.int .u8 0), (.int .u8 0), (.int .u8 0), (.int .u8 0), (.int .u8 0), (.int .u8 0), (.int .u8 0), (.int .u8 0), (.int .u8 0), (.int .u8 0), (.int .u8 0), (.int .u8 0), (.int .u8 0)], [], 5, 1, false, 32, 32⟩ := by kernel_rfl
theorem y101 : tyOf Tryd.prog 101 = ⟨.array, [(.int .u8 0), (.int .u8 0), (.int .u8 0), (.int .u8 0), (.int .u8 0), (.int .u8 0), (.int .u8 0), (.int .u8 0), (.int .u8 0), (.int .u8 0), (.int .u8 0), (.int .u8 0), (.int .u8 0), (.int .u8 0), (.int .u8 0), (.int .u8 0), (.int .u8 0), (.int .u8 0), (.int .u8 0), (.int .u8 0), (.int .u8 0), (.int .u8 0), (.int .u8 0), (.int .u8 0), (.int .u8 0), (.int .u8 0), (.int .u8 0), (.int .u8 0), (.int .u8 0), (.int .u8 0), (.int .u8 0), (.int .u8 0), (.int .u8 0), (.int .u8 0), (.int .u8 0), (.int .u8 0), (.int .u8 0), (.int .u8 0), (.int .u8 0), (.int .u8 0), (.int .u8 0), (.int .u8 0), (.int .u8 0), (.int .u8 0), (.int .u8 0), (.int .u8 0), (.int .u8 0), (.int .u8 0), (.int .u8 0), (.int .u8 0), (.int .u8 0), (.int .u8 0), (.int .u8 0), (.int .u8 0), (.int .u8 0), (.int .u8 0), (.int .u8 0), (.int .u8 0), (.int .u8 0), (.int .u8 0), (.int .u8 0), (.int .u8 0), (.int .u8 0), (.int .u8 0)], [], 5, 1, false, 64, 64⟩ := by kernel_rfl
theorem y102 : tyOf Tryd.prog 102 = ⟨.func, [.nilFunc], [], 0, 0, false, 0, 8⟩ := by kernel_rfl
theorem y103 : tyOf Tryd.prog 103 = ⟨.struct, [(.pointer none), (.pointer none), (.pointer none), (.string ⟨#[]⟩)], [(0, 1, false), (1, 1, false), (2, 1, false), (3, 1, false)], 0, 0, false, 0, 40⟩ := by kernel_rfl
theorem y104 : tyOf Tryd.prog 104 = ⟨.struct, [(.pointer none), (.pointer none), (.pointer none), (.string ⟨#[]⟩)], [(0, 1, false), (1, 1, false), (2, 1, false), (3, 1, false)], 0, 0, false, 0, 40⟩ := by kernel_rfl
theorem y105 : tyOf Tryd.prog 105 = ⟨.array, [], [], 16, 1, false, 0, 0⟩ := by kernel_rfl
theorem y106 : tyOf Tryd.prog 106 = ⟨.struct, [], [(0, 0, true)], 0, 0, false, 0, 0⟩ := by kernel_rfl
theorem y107 : tyOf Tryd.prog 107 = ⟨.struct, [], [(0, 0, true)], 0, 0, false, 0, 0⟩ := by kernel_rfl
theorem y108 : tyOf Tryd.prog 108 = ⟨.func, [.nilFunc], [], 0, 0, false, 0, 8⟩ := by kernel_rfl
theorem y109 : tyOf Tryd.prog 109 = ⟨(.int .u8), [(.int .u8 0)], [], 0, 0, false, 0, 1⟩ := by kernel_rfl
theorem y110 : tyOf Tryd.prog 110 = ⟨(.int .u8), [(.int .u8 0)], [], 0, 0, false, 0, 1⟩ := by kernel_rfl
theorem y111 : tyOf Tryd.prog 111 = ⟨.func, [.nilFunc], [], 0, 0, false, 0, 8⟩ := by kernel_rfl
theorem y112 : tyOf Tryd.prog 112 = ⟨(.int .i32), [(.int .i32 0)], [], 0, 0, false, 0, 4⟩ := by kernel_rfl
theorem y113 : tyOf Tryd.prog 113 = ⟨(.int .i32), [(.int .i32 0)], [], 0, 0, false, 0, 4⟩ := by kernel_rfl
theorem y114 : tyOf Tryd.prog 114 = ⟨.struct, [(.int .u64 0), (.int .u64 0), (.int .u32 0), (.int .u8 0), (.int .u8 0), (.int .u8 0), (.int .u8 0), .nilFunc, (.pointer none), (.int .i32 0), (.int .i32 0)], [(0, 1, false), (1, 1, false), (2, 1, false), (3, 1, false), (4, 1, false), (5, 1, false), (6, 1, false), (7, 1, false), (8, 1, false), (9, 1, false), (10, 1, false)], 0, 0, false, 0, 48⟩ := by kernel_rfl
theorem y115 : tyOf Tryd.prog 115 = ⟨.struct, [(.int .u64 0), (.int .u64 0), (.int .u32 0), (.int .u8 0), (.int .u8 0), (.int .u8 0), (.int .u8 0), .nilFunc, (.pointer none), (.int .i32 0), (.int .i32 0)], [(0, 1, false), (1, 1, false), (2, 1, false), (3, 1, false), (4, 1, false), (5, 1, false), (6, 1, false), (7, 1, false), (8, 1, false), (9, 1, false), (10, 1, false)], 0, 0, false, 0, 48⟩ := by kernel_rfl
theorem mixed : Tryd.prog.follows .mixedOrders = true := by kernel_rfl
theorem funcs_size : Tryd.prog.funcs.size = 94 := by kernel_rfl
theorem funcs_some (g : Nat) : (Tryd.prog.funcs[g]?).isSome = decide (g < 94) := by
  rw [← funcs_size]
  by_cases h : g < Tryd.prog.funcs.size
  · rw [Array.getElem?_eq_getElem h]; simp [h]
  · rw [Array.getElem?_eq_none (by omega)]; simp [h]
attribute [go_sem] y1 y2 y3 y4 y5 y6 y7 y8 y9 y10 y11 y12 y13 y14 y15 y16 y17 y18 y19 y20 y21 y22 y23 y24 y25 y26 y27 y28 y29 y30 y31 y32 y33 y34 y35 y36 y37 y39 y41 y42 y43 y44 y45 y46 y47 y48 y49 y50 y51 y52 y53 y54 y55 y56 y57 y58 y59 y60 y61 y63 y64 y65 y66 y67 y68 y69 y70 y71 y72 y73 y74 y75 y76 y77 y78 y79 y80 y81 y82 y83 y84 y85 y86 y87 y88 y89 y91 y92 y93 y94 y95 y96 y97 y98 y99 y100 y101 y102 y103 y104 y105 y106 y107 y108 y109 y110 y111 y112 y113 y114 y115 funcs_some
end Go.Proofs.YtnpfbjbacakgoaaDoor

set_option linter.unusedSimpArgs false
namespace Go.Proofs.YtnpfbjbacakgoaaDoor
open Go.Tn
set_option maxHeartbeats 8000000
set_option maxRecDepth 100000
def cellF (t : Tab) (r c : Int) : List UInt8 := if r < 0 ∨ t.2.length ≤ r ∨ c < 0 ∨ (t.2.getD r.toNat []).length ≤ c then [] else (t.2.getD r.toNat []).getD c.toNat []
abbrev dTab (t : Tab) : D := .agg [.sl 1 (t.1.map eS), .sl 1 (t.2.map eR)]
theorem fc_Cell (t : Tab) (r c : Int) : FC Tryd.prog 25 [] [dTab t, .int .i64 r, .int .i64 c] (.ret (.str (cellF t r c))) := by
  refine fc_M (fn := Tryd.f25) (C := (tab [] [])) (rs := [6]) mixed (by kernel_rfl) (by kernel_rfl) rfl rfl (by kernel_rfl) (by intro ys h; cases h) ?_
  unfold cellF
  by_cases h0 : r < 0
  · simp +contextual (maxSteps := 5000000) only [go_sem, ↓reduceIte, h0]
  · by_cases h1 : t.2.length ≤ r
    · simp +contextual (maxSteps := 5000000) only [go_sem, ↓reduceIte, h0, h1]
    · obtain ⟨i, rfl⟩ : ∃ i : Nat, r = i := ⟨r.toNat, by omega⟩
      have hi : i < t.2.length := by omega
      by_cases h2 : c < 0
      · simp +contextual (maxSteps := 5000000) only [go_sem, ↓reduceIte, h0, h1, hi, eR_at, h2]
        all_goals (try simp)
        all_goals (try omega)
      · obtain ⟨k, rfl⟩ : ∃ i : Nat, c = i := ⟨c.toNat, by omega⟩
        by_cases h3 : k < (t.2.getD i []).length
        · simp +contextual (maxSteps := 5000000) only [go_sem, ↓reduceIte, h0, h1, hi, eR_at, eS_at, h2, h3]
          all_goals omega
        · simp +contextual (maxSteps := 5000000) only [go_sem, ↓reduceIte, h0, h1, hi, eR_at, eS_at, h2, h3]
          all_goals omega
end Go.Proofs.YtnpfbjbacakgoaaDoor

set_option linter.unusedSimpArgs false
namespace Go.Proofs.YtnpfbjbacakgoaaDoor
open Go.Tn
set_option maxHeartbeats 8000000
set_option maxRecDepth 100000
/- slices.Grow of nil -/
def c_Grow (e sz : Nat) (caps args : List D) : Prop × Out := match caps, args with | [], [.nil, .int .i64 n] => (0 ≤ n ∧ n < 1099511627776, .own e sz []) | _, _ => (False, .ret .any)
end Go.Proofs.YtnpfbjbacakgoaaDoor

set_option linter.unusedSimpArgs false
namespace Go.Proofs.YtnpfbjbacakgoaaDoor
open Go.Tn
set_option maxHeartbeats 8000000
set_option maxRecDepth 100000
/- slices.Concat of lists, slices.Clone -/
def eSl (z : Nat) (r : List (List D)) : List D := [.sl z r]
theorem eSl_at (z : Nat) (L : List (List (List D))) (i : Nat) (h : i < L.length) : (L.map (eSl z)).getD i [] = [.sl z (L.getD i [])] := at_of (eSl z) [] L i h
theorem cat_succ {L : List (List (List D))} {i : Nat} (h : i < L.length) : (L.take (i + 1)).flatten = (L.take i).flatten ++ L.getD i [] := by
  rw [List.take_add_one, List.flatten_append, List.getElem?_eq_getElem h, List.getD_eq_getElem?_getD, List.getElem?_eq_getElem h]; simp
theorem cat_len {L : List (List (List D))} {i : Nat} (h : i < L.length) : (L.take (i + 1)).flatten.length = (L.take i).flatten.length + (L.getD i []).length := by rw [cat_succ h, List.length_append]
theorem cat_le (L : List (List (List D))) (i : Nat) : (L.take i).flatten.length ≤ L.flatten.length := by
  have := congrArg List.flatten (List.take_append_drop i L)
  rw [List.flatten_append] at this
  rw [← this, List.length_append]; omega
theorem fc_sl0 {P : Program} {f : Nat} {caps : List D} {z : Nat} {out : Out} (hns : ∀ ys, out ≠ .seq ys) (h : ∀ a c, FC P f caps [.val (.slice a 0 c)] out) : FC P f caps [.sl z []] out := by
  have key : ∀ {S : Ex} {w : World} {vs : List Value}, RdL S w [.sl z []] noPl vs → ∃ a c, RdL S w [.val (.slice a 0 c)] noPl vs := fun {S w vs} h => by
    obtain ⟨v, r, rfl, h1, h2⟩ := h
    simp only [RdL] at h2; subst h2
    simp only [Rd] at h1
    obtain ⟨a, cap, rfl, _⟩ := h1
    exact ⟨a, cap, _, [], rfl, rfl, rfl⟩
  cases out with
  | seq ys => exact absurd rfl (hns ys)
  | ret d => exact ⟨(h none 0).1, fun S w cs vs hla hx h1 h2 => by obtain ⟨a, c, h3⟩ := key h2; exact (h a c).2 S w cs vs hla hx h1 h3⟩
  | own e sz rows => exact ⟨(h none 0).1, fun S w cs vs hla hx h1 h2 => by obtain ⟨a, c, h3⟩ := key h2; exact (h a c).2 S w cs vs hla hx h1 h3⟩
  | pan d => exact ⟨(h none 0).1, fun S w cs vs hla hx h1 h2 => by obtain ⟨a, c, h3⟩ := key h2; exact (h a c).2 S w cs vs hla hx h1 h3⟩
def c_Clone (e z : Nat) (caps args : List D) : Prop × Out := match caps, args with
  | [], [.sl z1 l] => (z1 = z ∧ l.length < 1000000000, .own e z l)
  | _, _ => (False, .ret .any)
theorem nat_nlt0 (n : Nat) : ((n : Int) < 0) = False := by simp
def c_Cat (e z : Nat) (caps args : List D) : Prop × Out := match caps, args with
  | [], [.sl 1 [[.sl z1 a], [.sl z2 b]]] => (z1 = z ∧ z2 = z ∧ (a ++ b).length < 1000000000, .own e z (a ++ b))
  | _, _ => (False, .ret .any)
theorem fc_CloneS0 (a : Option Addr) (n c : Nat) (h : n = 0) : FC Tryd.prog 27 [] [.val (.slice a n c)] (.own 9 1 []) := by
  subst h
  refine fc_M (fn := Tryd.f27) (C := (tab [] [])) (rs := [2]) mixed (by kernel_rfl) (by kernel_rfl) rfl rfl (by kernel_rfl) (by intro ys h; cases h) ?_
  cases a with
  | none => simp +contextual (maxSteps := 5000000) only [go_sem, ↓reduceIte, Option.isNone_none]
  | some a => simp +contextual (maxSteps := 5000000) only [go_sem, ↓reduceIte, Option.isNone_some]
theorem fc_CloneS1 (x : List D) (l : List (List D)) (hl : (x :: l).length < 1000000000) : FC Tryd.prog 27 [] [.sl 1 (x :: l)] (.own 9 1 (x :: l)) := by
  refine fc_M (fn := Tryd.f27) (C := (tab [] [])) (rs := [2]) mixed (by kernel_rfl) (by kernel_rfl) rfl rfl (by kernel_rfl) (by intro ys h; cases h) ?_
  simp +contextual (maxSteps := 5000000) only [go_sem, ↓reduceIte]
  simp only [List.length_cons] at hl
  omega
theorem st_CloneS : StC Tryd.prog 27 (c_Clone 9 1) := by
  intro caps args; unfold c_Clone; split
  · rename_i z1 l
    rintro ⟨rfl, h⟩
    cases l with
    | nil => exact fc_sl0 (fun ys h => by cases h) fun a c => fc_CloneS0 a 0 c rfl
    | cons x l => exact fc_CloneS1 x l h
  · exact fun h => h.elim
end Go.Proofs.YtnpfbjbacakgoaaDoor

/- The texts of conflicts; where a name stands. -/
set_option linter.unusedSimpArgs false
namespace Go.Proofs.YtnpfbjbacakgoaaDoor
open Go.Tn
set_option maxHeartbeats 4000000
set_option maxRecDepth 100000
structure Cf where
  kind : Int
  row : Int
  col : List UInt8
  base : List UInt8
  ours : List UInt8
  them : List UInt8
def eCf (c : Cf) : List D := [.int .i64 c.kind, .int .i64 c.row, .str c.col, .str c.base, .str c.ours, .str c.them]
def txF (c : Cf) : List UInt8 := ((((([40, 40, 40, 32] : List UInt8) ++ c.base) ++ [32, 41, 41, 41, 32]) ++ c.ours) ++ [32, 47, 47, 47, 32]) ++ c.them
def okCf (c : Cf) : Prop := c.col.length + c.base.length + c.ours.length + c.them.length < 1000000000
def c_Txt (caps args : List D) : Prop × Out := match caps, args with
  | [], [.agg [.int .i64 k, .int .i64 r, .str a, .str b, .str d, .str e]] => (okCf ⟨k, r, a, b, d, e⟩, .ret (.str (txF ⟨k, r, a, b, d, e⟩)))
  | _, _ => (False, .ret .any)
theorem fc_Text (c : Cf) (h : okCf c) : FC Tryd.prog 11 [] [.agg (eCf c)] (.ret (.str (txF c))) := by
  refine fc_M (fn := Tryd.f11) (C := (tab [] [])) (rs := [2]) mixed (by kernel_rfl) (by kernel_rfl) rfl rfl (by kernel_rfl) (by intro ys h; cases h) ?_
  unfold okCf at h
  unfold txF
  simp +contextual (maxSteps := 5000000) only [go_sem, ↓reduceIte, eCf, eI_at, eI_set, List.length_set, tn_add, tn_add1, tn_sub, tn_sub1, sh1, sh1b, half_cast, Int.reduceEq, Int.reduceNe, Int.reduceLT, Int.reduceLE, Int.reduceToNat, Int.cast_ofNat_Int]
  omega
theorem st_Txt : StC Tryd.prog 11 c_Txt := by
  intro caps args; unfold c_Txt; split
  · exact fun h => fc_Text _ h
  · intro h; exact h.elim
theorem fc_rText (c : Cf) (h : okCf c) : FC Tryd.prog 12 [] [.agg (eCf c)] (.ret (.str (txF c))) := by
  refine fc_M (fn := Tryd.f12) (C := (tab [] [])) (rs := [2]) mixed (by kernel_rfl) (by kernel_rfl) rfl rfl (by kernel_rfl) (by intro ys h; cases h) ?_
  unfold okCf at h
  unfold txF
  simp +contextual (maxSteps := 5000000) only [go_sem, ↓reduceIte, eCf, eI_at, eI_set, List.length_set, tn_add, tn_add1, tn_sub, tn_sub1, sh1, sh1b, half_cast, Int.reduceEq, Int.reduceNe, Int.reduceLT, Int.reduceLE, Int.reduceToNat, Int.cast_ofNat_Int]
  omega
theorem st_rTxt : StC Tryd.prog 12 c_Txt := by
  intro caps args; unfold c_Txt; split
  · exact fun h => fc_rText _ h
  · intro h; exact h.elim

/- where a name stands -/
def fndS (s : List UInt8) : List (List UInt8) → Nat → Int
  | [], _ => -1
  | x :: r, k => if x = s then k else fndS s r (k + 1)
theorem drop_atS {α : Type} {l : List α} {i : Nat} {d : α} (h : i < l.length) : l.drop i = l.getD i d :: l.drop (i + 1) := by
  rw [List.drop_eq_getElem_cons h, List.getD_eq_getElem?_getD, List.getElem?_eq_getElem h]; rfl
theorem fndS_rng (s : List UInt8) : ∀ (l : List (List UInt8)) (k : Nat), fndS s l k = -1 ∨ ∃ j, j < l.length ∧ fndS s l k = (k + j : Nat)
  | [], _ => .inl rfl
  | x :: r, k => by
    simp only [fndS]
    split
    · exact .inr ⟨0, by simp, by simp⟩
    · rcases fndS_rng s r (k + 1) with h | ⟨j, hj, h⟩
      · exact .inl h
      · exact .inr ⟨j + 1, by simpa using hj, by rw [h]; congr 1; omega⟩
def unSd (r : List D) : List UInt8 := match r with | [.str x] => x | _ => []
def c_ixS (caps args : List D) : Prop × Out := match caps, args with
  | [], [.sl 1 l, .str s] => (∃ k : List (List UInt8), l = k.map eS ∧ k.length < 1000000000, .ret (.int .i64 (fndS s (l.map unSd) 0)))
  | _, _ => (False, .ret .any)
theorem unS (l : List (List UInt8)) : (l.map eS).map unSd = l := by
  rw [List.map_map]
  conv => rhs; rw [← List.map_id l]
  exact List.map_congr_left fun x _ => rfl
theorem fc_IndexS (l : List (List UInt8)) (s : List UInt8) (hl : l.length < 1000000000) : FC Tryd.prog 39 [] [.sl 1 (l.map eS), .str s] (.ret (.int .i64 (fndS s l 0))) := by
  refine fc_M (fn := Tryd.f39) (C := (tab [] [])) (rs := [4]) mixed (by kernel_rfl) (by kernel_rfl) rfl rfl (by kernel_rfl) (by intro ys h; cases h) ?_
  simp +contextual (maxSteps := 5000000) only [go_sem, ↓reduceIte]
  intro _
  refine M_loopI (fun i : Nat => ⟨[(0, .sl 1 (l.map eS)), (1, .str s), (6, .sl 1 (l.map eS)), (7, .int .i64 l.length), (8, .int .i64 i)], []⟩) (fun i => l.length - i) (fun i => i ≤ l.length ∧ fndS s (l.drop i) i = fndS s l 0) 0 ?_ ?_
  · simp +contextual (maxSteps := 5000000) only [go_sem, ↓reduceIte]
    rfl
  rintro i ⟨hi, hf⟩
  by_cases hlt : i < l.length
  · have hat := eS_at l i hlt
    rw [drop_atS (d := []) hlt] at hf
    simp only [fndS] at hf
    by_cases q : l.getD i [] = s
    · rw [if_pos q] at hf
      rw [← hf]
      simp +contextual (maxSteps := 5000000) only [go_sem, ↓reduceIte, hlt, hat, q]
    · rw [if_neg q] at hf
      have q' : ¬ s = l.getD i [] := fun e => q e.symm
      simp +contextual (maxSteps := 5000000) only [go_sem, ↓reduceIte, hlt, hat, q, q']
      exact ⟨inR64 (by omega) (by omega), fun _ => ⟨i + 1, by simp, by omega, by omega, hf⟩⟩
  · rw [List.drop_of_length_le (by omega)] at hf
    simp only [fndS] at hf
    rw [← hf]
    simp +contextual (maxSteps := 5000000) only [go_sem, ↓reduceIte, hlt]
theorem st_ixS : StC Tryd.prog 39 c_ixS := by
  intro caps args; unfold c_ixS; split
  · rintro ⟨k, rfl, hk⟩
    rw [unS]
    exact fc_IndexS k _ hk
  · intro h; exact h.elim
def c_Fd (t : Tab) (caps args : List D) : Prop × Out := match caps, args with
  | [], [.agg (x :: _), .str s] => (x = .sl 1 (t.1.map eS) ∧ t.1.length < 1000000000, .ret (.int .i64 (fndS s t.1 0)))
  | _, _ => (False, .ret .any)
theorem fc_tFind (l : List (List UInt8)) (x : D) (s : List UInt8) (hl : l.length < 1000000000) : FC Tryd.prog 24 [] [.agg [.sl 1 (l.map eS), x], .str s] (.ret (.int .i64 (fndS s l 0))) := by
  have h := st_ixS
  refine fc_M (fn := Tryd.f24) (C := (tab [(39, c_ixS)] [])) (rs := [4]) mixed (by kernel_rfl) (by kernel_rfl) rfl rfl (by kernel_rfl) (by intro ys h; cases h) ?_
  cases x <;> simp +contextual (maxSteps := 5000000) only [go_sem, ↓reduceIte, h, c_ixS, unS]
  all_goals exact ⟨l, rfl, hl⟩
def c_tF (caps args : List D) : Prop × Out := match caps, args with
  | [], [.agg [.sl 1 l, _], .str s] => (∃ k : List (List UInt8), l = k.map eS ∧ k.length < 1000000000, .ret (.int .i64 (fndS s (l.map unSd) 0)))
  | _, _ => (False, .ret .any)
theorem st_tF : StC Tryd.prog 24 c_tF := by
  intro caps args; unfold c_tF; split
  · rintro ⟨k, rfl, hk⟩
    rw [unS]
    exact fc_tFind k _ _ hk
  · intro h; exact h.elim
end Go.Proofs.YtnpfbjbacakgoaaDoor

/- Names of slices that a slice holds. -/
set_option linter.unusedSimpArgs false
namespace Go.Proofs.YtnpfbjbacakgoaaDoor
open Go.Tn
set_option maxHeartbeats 4000000
set_option maxRecDepth 100000
theorem inn_ne {i k n : Nat} (h : n < 100000 * (i + 1)) : (inn i k = n) = False := by
  apply eq_false; unfold inn; omega
theorem inn_ne' {i k n : Nat} (h : n < 100000 * (i + 1)) : (n = inn i k) = False := by
  apply eq_false; unfold inn; omega
theorem inn_lt {a b c d : Nat} (h : a < c) (hb : b < 100000) : (inn a b = inn c d) = False := by
  apply eq_false; unfold inn; omega
theorem inn_lt' {a b c d : Nat} (h : a < c) (hb : b < 100000) : (inn c d = inn a b) = False := by
  apply eq_false; unfold inn; omega
theorem inn_eq {i a b : Nat} : (inn i a = inn i b) = (a = b) := by
  apply propext; unfold inn; omega
abbrev Rws := List (List (List UInt8))
def idsF (i : Nat) : Nat → Rws → List (Nat × Nat)
  | _, [] => []
  | k, r :: rs => (inn i k, r.length) :: idsF i (k + 1) rs
def famF (i e : Nat) : Nat → Rws → List (Nat × LObj)
  | _, [] => []
  | k, r :: rs => (inn i k, .vec e 1 (r.map eS) 0) :: famF i e (k + 1) rs
theorem ids_len (i : Nat) : ∀ (rs : Rws) (k : Nat), (idsF i k rs).length = rs.length
  | [], _ => rfl
  | _ :: rs, k => by simp [idsF, ids_len i rs]
theorem ids_at (i : Nat) : ∀ (rs : Rws) (k j : Nat), j < rs.length → (idsF i k rs).getD j (0, 0) = (inn i (k + j), (rs.getD j []).length)
  | r :: rs, k, 0, _ => by simp [idsF]
  | r :: rs, k, j + 1, h => by
    have := ids_at i rs (k + 1) j (by simpa using h)
    simp only [idsF, List.getD_cons_succ]
    rw [this]; congr 2; omega
theorem ids_snoc (i : Nat) (r : List (List UInt8)) : ∀ (rs : Rws) (k : Nat), idsF i k (rs ++ [r]) = idsF i k rs ++ [(inn i (k + rs.length), r.length)]
  | [], _ => rfl
  | x :: rs, k => by
    simp only [List.cons_append, idsF, ids_snoc i r rs (k + 1), List.length_cons]
    rw [show k + 1 + rs.length = k + (rs.length + 1) by omega]
theorem ids_congr (i : Nat) : ∀ (rs qs : Rws) (k : Nat), rs.map List.length = qs.map List.length → idsF i k rs = idsF i k qs
  | [], [], _, _ => rfl
  | r :: rs, q :: qs, k, h => by
    simp only [List.map_cons, List.cons.injEq] at h
    simp only [idsF, h.1, ids_congr i rs qs (k + 1) h.2]
  | [], _ :: _, _, h => by simp at h
  | _ :: _, [], _, h => by simp at h
theorem fam_at (i e : Nat) : ∀ (rs : Rws) (k j : Nat), j < rs.length → mkH (famF i e k rs) (inn i (k + j)) = some (.vec e 1 ((rs.getD j []).map eS) 0)
  | r :: rs, k, 0, _ => by simp [famF, mkH, upd]
  | r :: rs, k, j + 1, h => by
    have := fam_at i e rs (k + 1) j (by simpa using h)
    simp only [famF, mkH, upd, List.getD_cons_succ]
    rw [if_neg (by rw [inn_eq]; omega), ← this]
    congr 2; omega
theorem fam_no (i e : Nat) : ∀ (rs : Rws) (k j : Nat), rs.length ≤ j → mkH (famF i e k rs) (inn i (k + j)) = none ∧ mkU (famF i e k rs) (inn i (k + j)) = false
  | [], _, _, _ => ⟨rfl, rfl⟩
  | r :: rs, k, j + 1, h => by
    have := fam_no i e rs (k + 1) j (by simpa using h)
    rw [show k + 1 + j = k + (j + 1) by omega] at this
    simp only [famF, mkH, mkU, upd, inn_eq]
    rw [if_neg (by omega), if_neg (by omega)]
    exact this
theorem famU_at (i e : Nat) : ∀ (rs : Rws) (k j : Nat), j < rs.length → mkU (famF i e k rs) (inn i (k + j)) = true
  | r :: rs, k, 0, _ => by simp [famF, mkU, upd]
  | r :: rs, k, j + 1, h => by
    have := famU_at i e rs (k + 1) j (by simpa using h)
    rw [show k + 1 + j = k + (j + 1) by omega] at this
    simp only [famF, mkU, upd, inn_eq]
    rw [if_neg (by omega)]
    exact this
theorem fam_lit (i e n : Nat) (h : n < 100000 * (i + 1)) : ∀ (rs : Rws) (k : Nat), mkH (famF i e k rs) n = none ∧ mkU (famF i e k rs) n = false
  | [], _ => ⟨rfl, rfl⟩
  | r :: rs, k => by
    have := fam_lit i e n h rs (k + 1)
    simp only [famF, mkH, mkU, upd, inn_ne' h, if_false]
    exact this
theorem famH_lit {i e n k : Nat} {rs : Rws} (h : n < 100000 * (i + 1)) : mkH (famF i e k rs) n = none := (fam_lit i e n h rs k).1
theorem famU_lit {i e n k : Nat} {rs : Rws} (h : n < 100000 * (i + 1)) : mkU (famF i e k rs) n = false := (fam_lit i e n h rs k).2
/-- the slices stand in the heap as they are told -/
def FamIn (H : Nat → Option LObj) (i e : Nat) (rs : Rws) : Prop := ∀ j, j < rs.length → H (inn i j) = some (.vec e 1 ((rs.getD j []).map eS) 0)
theorem fam_ent {V U : Nat → Bool} {H : Nat → Option LObj} (i e : Nat) : ∀ (rs : Rws) (k : Nat), (∀ j, j < rs.length → H (inn i (k + j)) = some (.vec e 1 ((rs.getD j []).map eS) 0)) → entO V U H (famF i e k rs)
  | [], _, _ => trivial
  | r :: rs, k, h => by
    simp only [famF, entO]
    refine ⟨⟨?_, trivial⟩, fam_ent i e rs (k + 1) fun j hj => ?_⟩
    · have := h 0 (by simp)
      rw [show k + 0 = k by omega] at this
      rw [this]
      exact ⟨rfl, rfl, rfl, Nat.le_refl _, by simp⟩
    · have := h (j + 1) (by simpa using hj)
      rw [show k + 1 + j = k + (j + 1) by omega]
      simpa using this
theorem ids_in {U : Nat → Bool} (i : Nat) : ∀ (rs : Rws) (k : Nat), (∀ j, j < rs.length → U (inn i (k + j)) = true) → inOL U (nvD (idsF i k rs))
  | [], _, _ => trivial
  | r :: rs, k, h => by
    refine ⟨by show U (inn i k) = true; simpa using h 0 (by simp), ids_in i rs (k + 1) fun j hj => ?_⟩
    have := h (j + 1) (by simpa using hj)
    rwa [show k + 1 + j = k + (j + 1) by omega]
theorem ids_cv {H : Nat → Option LObj} (i e n : Nat) : ∀ (rs : Rws) (k : Nat), (∀ j, j < rs.length → H (inn i (k + j)) = some (.vec e 1 ((rs.getD j []).map eS) 0)) →
    (idsF i k rs).map (fun q => [cv H (n + 1) (.vec q.1 q.2)]) = rs.map eR
  | [], _, _ => rfl
  | r :: rs, k, h => by
    have h0 := h 0 (by simp)
    rw [show k + 0 = k by omega] at h0
    simp only [idsF, List.map_cons, ids_cv i e n rs (k + 1) (fun j hj => by
      have := h (j + 1) (by simpa using hj)
      rw [show k + 1 + j = k + (j + 1) by omega]
      simpa using this)]
    congr 1
    simp only [cv, h0, cvV, eR]
    rfl
theorem ids_new {H : Nat → Option LObj} (i e n : Nat) : ∀ (rs : Rws) (k : Nat), (∀ j, j < rs.length → H (inn i (k + j)) = some (.vec e 1 ((rs.getD j []).map eS) 0)) →
    (nvD (idsF i k rs)).foldr (fun c q => new H (n + 1) c ∧ q) True
  | [], _, _ => trivial
  | r :: rs, k, h => by
    have h0 := h 0 (by simp)
    rw [show k + 0 = k by omega] at h0
    refine ⟨?_, ids_new i e n rs (k + 1) (fun j hj => by
      have := h (j + 1) (by simpa using hj)
      rw [show k + 1 + j = k + (j + 1) by omega]
      simpa using this)⟩
    simp only [new, h0, newW]
    simp
end Go.Proofs.YtnpfbjbacakgoaaDoor

/- A table with marks: mark.Mark. -/
set_option linter.unusedSimpArgs false
namespace Go.Proofs.YtnpfbjbacakgoaaDoor
open Go.Tn
set_option maxHeartbeats 8000000
set_option maxRecDepth 100000
def thF (rs : Rws) (r c : Int) : Bool := decide (0 ≤ r ∧ r < rs.length ∧ 0 ≤ c ∧ c < (rs.getD r.toNat []).length)
theorem fc_there (h : D) (hh : ∃ z l, h = .sl z l) (rs : Rws) (r c : Int) (hl : rs.length < 1000000000) : FC Tryd.prog 28 [] [.agg [h, .sl 1 (rs.map eR), .int .i64 r, .int .i64 c]] (.ret (.bool (thF rs r c))) := by
  obtain ⟨z, l, rfl⟩ := hh
  refine fc_M (fn := Tryd.f28) (C := (tab [] [])) (rs := [2]) mixed (by kernel_rfl) (by kernel_rfl) rfl rfl (by kernel_rfl) (by intro ys h; cases h) ?_
  unfold thF
  by_cases h0 : 0 ≤ r
  · obtain ⟨i, rfl⟩ : ∃ i : Nat, r = i := ⟨r.toNat, by omega⟩
    by_cases h1 : i < rs.length
    · have hat := eR_at rs i h1
      by_cases h2 : 0 ≤ c
      · obtain ⟨k, rfl⟩ : ∃ i : Nat, c = i := ⟨c.toNat, by omega⟩
        simp +contextual (maxSteps := 5000000) only [go_sem, ↓reduceIte, h1, hat]
      · simp +contextual (maxSteps := 5000000) only [go_sem, ↓reduceIte, h1, hat, h2]
    · simp +contextual (maxSteps := 5000000) only [go_sem, ↓reduceIte, h1]
  · simp +contextual (maxSteps := 5000000) only [go_sem, ↓reduceIte, h0]
def unR (r : List D) : List (List UInt8) := match r with | [.sl _ x] => x.map unSd | _ => []
theorem unR_map (l : Rws) : (l.map eR).map unR = l := by
  rw [List.map_map]
  conv => rhs; rw [← List.map_id l]
  exact List.map_congr_left fun x _ => by simp only [Function.comp, eR, unR, unS]; rfl
def c_th (caps args : List D) : Prop × Out := match caps, args with
  | [], [.agg [.sl _ _, .sl 1 l, .int .i64 r, .int .i64 c]] => (∃ rs : Rws, l = rs.map eR ∧ rs.length < 1000000000, .ret (.bool (thF (l.map unR) r c)))
  | _, _ => (False, .ret .any)
theorem st_th : StC Tryd.prog 28 c_th := by
  intro caps args; unfold c_th; split
  · rintro ⟨rs, rfl, h⟩
    rw [unR_map]
    exact fc_there _ ⟨_, _, rfl⟩ rs _ _ h
  · exact fun h => h.elim
theorem fam_at0 {i e j : Nat} {rs : Rws} (h : j < rs.length) : mkH (famF i e 0 rs) (inn i j) = some (.vec e 1 ((rs.getD j []).map eS) 0) := by
  have := fam_at i e rs 0 j h; rwa [Nat.zero_add] at this
theorem famU_at0 {i e j : Nat} {rs : Rws} (h : j < rs.length) : mkU (famF i e 0 rs) (inn i j) = true := by
  have := famU_at i e rs 0 j h; rwa [Nat.zero_add] at this
theorem fam_no0 {i e j : Nat} {rs : Rws} (h : rs.length ≤ j) : mkH (famF i e 0 rs) (inn i j) = none := by
  have := (fam_no i e rs 0 j h).1; rwa [Nat.zero_add] at this
theorem famU_no0 {i e j : Nat} {rs : Rws} (h : rs.length ≤ j) : mkU (famF i e 0 rs) (inn i j) = false := by
  have := (fam_no i e rs 0 j h).2; rwa [Nat.zero_add] at this
theorem fam_ent0 {V U : Nat → Bool} {H : Nat → Option LObj} {i e : Nat} {rs : Rws} (h : ∀ j, j < rs.length → H (inn i j) = some (.vec e 1 ((rs.getD j []).map eS) 0)) : entO V U H (famF i e 0 rs) :=
  fam_ent i e rs 0 fun j hj => by rw [Nat.zero_add]; exact h j hj
theorem ids_in0 {U : Nat → Bool} {i : Nat} {rs : Rws} (h : ∀ j, j < rs.length → U (inn i j) = true) : inOL U (nvD (idsF i 0 rs)) :=
  ids_in i rs 0 fun j hj => by rw [Nat.zero_add]; exact h j hj
theorem ids_cv0 {H : Nat → Option LObj} {i e n : Nat} {rs : Rws} (h : ∀ j, j < rs.length → H (inn i j) = some (.vec e 1 ((rs.getD j []).map eS) 0)) :
    (idsF i 0 rs).map (fun q => [cv H (n + 1) (.vec q.1 q.2)]) = rs.map eR := ids_cv i e n rs 0 fun j hj => by rw [Nat.zero_add]; exact h j hj
theorem ids_new0 {H : Nat → Option LObj} {i e n : Nat} {rs : Rws} (h : ∀ j, j < rs.length → H (inn i j) = some (.vec e 1 ((rs.getD j []).map eS) 0)) :
    (nvD (idsF i 0 rs)).foldr (fun c q => new H (n + 1) c ∧ q) True := ids_new i e n rs 0 fun j hj => by rw [Nat.zero_add]; exact h j hj
def markR (rs : Rws) (c : Cf) (col : Int) : Rws := if (c.kind = 5 ∨ c.kind = 4) ∧ thF rs c.row col = true then rs.set c.row.toNat ((rs.getD c.row.toNat []).set col.toNat (txF c)) else rs
def marksF (h : List (List UInt8)) (rs : Rws) (l : List Cf) : Rws := l.foldl (fun rs c => markR rs c (fndS c.col h 0)) rs
theorem tfTab : TyFact Tryd.prog 25 (tyOf Tryd.prog 25) := tyOf_fact (by intro h; rw [show tyOf Tryd.prog 25 = _ from by simp only [go_sem]; rfl] at h; cases h)
end Go.Proofs.YtnpfbjbacakgoaaDoor

/- The library's contracts of strconv.Itoa and strconv.ParseUint, at this program's numbers. -/
namespace Go.Proofs
open Go.Shelf
def Tryd.laysPu14_ren : Go.Shelf.Ren := ⟨fun | 14 => 34 | 16 => 42 | 17 => 43 | 19 => 45 | 20 => 46 | 21 => 47 | 22 => 48 | 23 => 49 | 24 => 50 | 25 => 52 | 27 => 44 | 26 => 53 | 28 => 51 | 29 => 54 | 30 => 55 | 31 => 56 | 32 => 57 | 33 => 58 | 35 => 60 | 34 => 59 | 36 => 61 | 37 => 62 | 38 => 63 | 39 => 64 | 40 => 65 | n => n, fun | 9 => 9 | 3 => 3 | 22 => 59 | 24 => 61 | 25 => 62 | 4 => 4 | 34 => 71 | 5 => 5 | 36 => 73 | 37 => 68 | 0 => 0 | 39 => 75 | 21 => 21 | 44 => 80 | 47 => 83 | 50 => 86 | 48 => 84 | 2 => 2 | 52 => 87 | 55 => 90 | 59 => 94 | 60 => 95 | 20 => 20 | 61 => 96 | 65 => 100 | 66 => 101 | 67 => 102 | n => n, fun | 0 => 0 | 1 => 1 | 2 => 2 | 3 => 3 | 4 => 4 | n => n⟩
theorem Tryd.laysPu14 : Go.Proofs.LaysPu.n14 Tryd.prog Tryd.laysPu14_ren := {
  mixed := by kernel_rfl,
  f14 := Tryd.func34.trans (congrArg some (by kernel_rfl)),
  f16 := Tryd.func42.trans (congrArg some (by kernel_rfl)),
  f17 := Tryd.func43.trans (congrArg some (by kernel_rfl)),
  f19 := Tryd.func45.trans (congrArg some (by kernel_rfl)),
  f20 := Tryd.func46.trans (congrArg some (by kernel_rfl)),
  f21 := Tryd.func47.trans (congrArg some (by kernel_rfl)),
  f22 := Tryd.func48.trans (congrArg some (by kernel_rfl)),
  f23 := Tryd.func49.trans (congrArg some (by kernel_rfl)),
  f24 := Tryd.func50.trans (congrArg some (by kernel_rfl)),
  f25 := Tryd.func52.trans (congrArg some (by kernel_rfl)),
  f26 := Tryd.func53.trans (congrArg some (by kernel_rfl)),
  f27 := Tryd.func44.trans (congrArg some (by kernel_rfl)),
  f28 := Tryd.func51.trans (congrArg some (by kernel_rfl)),
  f29 := Tryd.func54.trans (congrArg some (by kernel_rfl)),
  f30 := Tryd.func55.trans (congrArg some (by kernel_rfl)),
  f31 := Tryd.func56.trans (congrArg some (by kernel_rfl)),
  f32 := Tryd.func57.trans (congrArg some (by kernel_rfl)),
  f33 := Tryd.func58.trans (congrArg some (by kernel_rfl)),
  f34 := Tryd.func59.trans (congrArg some (by kernel_rfl)),
  f35 := Tryd.func60.trans (congrArg some (by kernel_rfl)),
  f36 := Tryd.func61.trans (congrArg some (by kernel_rfl)),
  f37 := Tryd.func62.trans (congrArg some (by kernel_rfl)),
  f38 := Tryd.func63.trans (congrArg some (by kernel_rfl)),
  f39 := Tryd.func64.trans (congrArg some (by kernel_rfl)),
  f40 := Tryd.func65.trans (congrArg some (by kernel_rfl)),
  t0 := Tryd.underlying0,
  a0 := Tryd.isAgg0,
  z0 := Tryd.sizeOf0,
  v0 := Tryd.zeroValue0,
  i0 := by kernel_rfl,
  t2 := Tryd.underlying2,
  a2 := Tryd.isAgg2,
  z2 := Tryd.sizeOf2,
  v2 := Tryd.zeroValue2,
  i2 := by kernel_rfl,
  t3 := Tryd.underlying3,
  a3 := Tryd.isAgg3,
  z3 := Tryd.sizeOf3,
  v3 := Tryd.zeroValue3,
  i3 := by kernel_rfl,
  t4 := Tryd.underlying4,
  a4 := Tryd.isAgg4,
  z4 := Tryd.sizeOf4,
  v4 := Tryd.zeroValue4,
  i4 := by kernel_rfl,
  t5 := Tryd.underlying5,
  a5 := Tryd.isAgg5,
  z5 := Tryd.sizeOf5,
  v5 := Tryd.zeroValue5,
  i5 := by kernel_rfl,
  t9 := Tryd.underlying9,
  a9 := Tryd.isAgg9,
  z9 := Tryd.sizeOf9,
  v9 := Tryd.zeroValue9,
  i9 := by kernel_rfl,
  t20 := Tryd.underlying20,
  a20 := Tryd.isAgg20,
  z20 := Tryd.sizeOf20,
  v20 := Tryd.zeroValue20,
  i20 := by kernel_rfl,
  t21 := Tryd.underlying21,
  a21 := Tryd.isAgg21,
  z21 := Tryd.sizeOf21,
  v21 := Tryd.zeroValue21,
  i21 := by kernel_rfl,
  t22 := Tryd.underlying59,
  a22 := Tryd.isAgg59,
  z22 := Tryd.sizeOf59,
  v22 := Tryd.zeroValue59,
  i22 := by kernel_rfl,
  t24 := Tryd.underlying61,
  a24 := Tryd.isAgg61,
  z24 := Tryd.sizeOf61,
  v24 := Tryd.zeroValue61,
  i24 := by kernel_rfl,
  t25 := Tryd.underlying62,
  a25 := Tryd.isAgg62,
  z25 := Tryd.sizeOf62,
  v25 := Tryd.zeroValue62,
  i25 := by kernel_rfl,
  t34 := Tryd.underlying71,
  a34 := Tryd.isAgg71,
  z34 := Tryd.sizeOf71,
  v34 := Tryd.zeroValue71,
  i34 := by kernel_rfl,
  c34 := by kernel_rfl,
  t36 := Tryd.underlying73,
  a36 := Tryd.isAgg73,
  z36 := Tryd.sizeOf73,
  v36 := Tryd.zeroValue73,
  i36 := by kernel_rfl,
  t37 := Tryd.underlying68,
  a37 := Tryd.isAgg68,
  z37 := Tryd.sizeOf68,
  v37 := Tryd.zeroValue68,
  i37 := by kernel_rfl,
  t39 := Tryd.underlying75,
  a39 := Tryd.isAgg75,
  z39 := Tryd.sizeOf75,
  v39 := Tryd.zeroValue75,
  i39 := by kernel_rfl,
  t44 := Tryd.underlying80,
  a44 := Tryd.isAgg80,
  z44 := Tryd.sizeOf80,
  v44 := Tryd.zeroValue80,
  i44 := by kernel_rfl,
  t47 := Tryd.underlying83,
  a47 := Tryd.isAgg83,
  z47 := Tryd.sizeOf83,
  v47 := Tryd.zeroValue83,
  i47 := by kernel_rfl,
  t48 := Tryd.underlying84,
  a48 := Tryd.isAgg84,
  z48 := Tryd.sizeOf84,
  v48 := Tryd.zeroValue84,
  i48 := by kernel_rfl,
  t50 := Tryd.underlying86,
  a50 := Tryd.isAgg86,
  z50 := Tryd.sizeOf86,
  v50 := Tryd.zeroValue86,
  i50 := by kernel_rfl,
  t52 := Tryd.underlying87,
  a52 := Tryd.isAgg87,
  z52 := Tryd.sizeOf87,
  v52 := Tryd.zeroValue87,
  i52 := by kernel_rfl,
  t55 := Tryd.underlying90,
  a55 := Tryd.isAgg90,
  z55 := Tryd.sizeOf90,
  v55 := Tryd.zeroValue90,
  i55 := by kernel_rfl,
  t59 := Tryd.underlying94,
  a59 := Tryd.isAgg94,
  z59 := Tryd.sizeOf94,
  v59 := Tryd.zeroValue94,
  i59 := by kernel_rfl,
  t60 := Tryd.underlying95,
  a60 := Tryd.isAgg95,
  z60 := Tryd.sizeOf95,
  v60 := Tryd.zeroValue95,
  i60 := by kernel_rfl,
  t61 := Tryd.underlying96,
  a61 := Tryd.isAgg96,
  z61 := Tryd.sizeOf96,
  t65 := Tryd.underlying100,
  a65 := Tryd.isAgg100,
  z65 := Tryd.sizeOf100,
  v65 := Tryd.zeroValue100,
  i65 := by kernel_rfl,
  t66 := Tryd.underlying101,
  a66 := Tryd.isAgg101,
  z66 := Tryd.sizeOf101,
  v66 := Tryd.zeroValue101,
  i66 := by kernel_rfl,
  t67 := Tryd.underlying102,
  a67 := Tryd.isAgg102,
  z67 := Tryd.sizeOf102,
  v67 := Tryd.zeroValue102,
  i67 := by kernel_rfl,
  g0 := by kernel_rfl,
  m0 := by kernel_rfl,
  g1 := by kernel_rfl,
  m1 := by kernel_rfl,
  g2 := by kernel_rfl,
  m2 := by kernel_rfl,
  g3 := by kernel_rfl,
  m3 := by kernel_rfl,
  g4 := by kernel_rfl,
  m4 := by kernel_rfl }
def Tryd.laysM171_ren : Go.Shelf.Ren := ⟨fun | 171 => 44 | 243 => 51 | 246 => 54 | 283 => 55 | 284 => 56 | 285 => 57 | 286 => 58 | 129 => 60 | 317 => 59 | 318 => 61 | 319 => 62 | 320 => 63 | 337 => 64 | 338 => 65 | n => n, fun | 3 => 3 | 9 => 9 | 2 => 2 | 4 => 4 | 171 => 87 | 0 => 0 | 53 => 59 | 37 => 68 | 5 => 5 | 173 => 90 | 212 => 94 | 51 => 95 | 20 => 20 | 213 => 96 | 46 => 73 | 232 => 100 | 233 => 101 | n => n, fun | 17 => 2 | 18 => 3 | 19 => 4 | n => n⟩
theorem Tryd.laysM171 : Go.Proofs.LaysM.n171 Tryd.prog Tryd.laysM171_ren := {
  mixed := by kernel_rfl,
  f129 := Tryd.func60.trans (congrArg some (by kernel_rfl)),
  f171 := Tryd.func44.trans (congrArg some (by kernel_rfl)),
  f243 := Tryd.func51.trans (congrArg some (by kernel_rfl)),
  f246 := Tryd.func54.trans (congrArg some (by kernel_rfl)),
  f283 := Tryd.func55.trans (congrArg some (by kernel_rfl)),
  f284 := Tryd.func56.trans (congrArg some (by kernel_rfl)),
  f285 := Tryd.func57.trans (congrArg some (by kernel_rfl)),
  f286 := Tryd.func58.trans (congrArg some (by kernel_rfl)),
  f317 := Tryd.func59.trans (congrArg some (by kernel_rfl)),
  f318 := Tryd.func61.trans (congrArg some (by kernel_rfl)),
  f319 := Tryd.func62.trans (congrArg some (by kernel_rfl)),
  f320 := Tryd.func63.trans (congrArg some (by kernel_rfl)),
  f337 := Tryd.func64.trans (congrArg some (by kernel_rfl)),
  f338 := Tryd.func65.trans (congrArg some (by kernel_rfl)),
  t0 := Tryd.underlying0,
  a0 := Tryd.isAgg0,
  z0 := Tryd.sizeOf0,
  v0 := Tryd.zeroValue0,
  t2 := Tryd.underlying2,
  a2 := Tryd.isAgg2,
  z2 := Tryd.sizeOf2,
  v2 := Tryd.zeroValue2,
  t3 := Tryd.underlying3,
  a3 := Tryd.isAgg3,
  z3 := Tryd.sizeOf3,
  v3 := Tryd.zeroValue3,
  t4 := Tryd.underlying4,
  a4 := Tryd.isAgg4,
  z4 := Tryd.sizeOf4,
  v4 := Tryd.zeroValue4,
  t5 := Tryd.underlying5,
  a5 := Tryd.isAgg5,
  z5 := Tryd.sizeOf5,
  v5 := Tryd.zeroValue5,
  t9 := Tryd.underlying9,
  a9 := Tryd.isAgg9,
  z9 := Tryd.sizeOf9,
  v9 := Tryd.zeroValue9,
  t20 := Tryd.underlying20,
  a20 := Tryd.isAgg20,
  z20 := Tryd.sizeOf20,
  v20 := Tryd.zeroValue20,
  t37 := Tryd.underlying68,
  a37 := Tryd.isAgg68,
  z37 := Tryd.sizeOf68,
  v37 := Tryd.zeroValue68,
  t46 := Tryd.underlying73,
  a46 := Tryd.isAgg73,
  z46 := Tryd.sizeOf73,
  v46 := Tryd.zeroValue73,
  t51 := Tryd.underlying95,
  a51 := Tryd.isAgg95,
  z51 := Tryd.sizeOf95,
  v51 := Tryd.zeroValue95,
  t53 := Tryd.underlying59,
  a53 := Tryd.isAgg59,
  z53 := Tryd.sizeOf59,
  v53 := Tryd.zeroValue59,
  t171 := Tryd.underlying87,
  a171 := Tryd.isAgg87,
  z171 := Tryd.sizeOf87,
  v171 := Tryd.zeroValue87,
  t173 := Tryd.underlying90,
  a173 := Tryd.isAgg90,
  z173 := Tryd.sizeOf90,
  v173 := Tryd.zeroValue90,
  t212 := Tryd.underlying94,
  a212 := Tryd.isAgg94,
  z212 := Tryd.sizeOf94,
  v212 := Tryd.zeroValue94,
  t213 := Tryd.underlying96,
  a213 := Tryd.isAgg96,
  z213 := Tryd.sizeOf96,
  t232 := Tryd.underlying100,
  a232 := Tryd.isAgg100,
  z232 := Tryd.sizeOf100,
  v232 := Tryd.zeroValue100,
  t233 := Tryd.underlying101,
  a233 := Tryd.isAgg101,
  z233 := Tryd.sizeOf101,
  v233 := Tryd.zeroValue101,
  g17 := by kernel_rfl,
  g18 := by kernel_rfl,
  g19 := by kernel_rfl,
  i0 := by kernel_rfl,
  i2 := by kernel_rfl,
  i3 := by kernel_rfl,
  i4 := by kernel_rfl,
  i5 := by kernel_rfl,
  i9 := by kernel_rfl,
  i20 := by kernel_rfl,
  i37 := by kernel_rfl,
  i46 := by kernel_rfl,
  i51 := by kernel_rfl,
  i53 := by kernel_rfl,
  i171 := by kernel_rfl,
  i173 := by kernel_rfl,
  i212 := by kernel_rfl,
  i232 := by kernel_rfl,
  i233 := by kernel_rfl,
  m17 := by kernel_rfl,
  m18 := by kernel_rfl,
  m19 := by kernel_rfl }
end Go.Proofs

/- Numbers as texts, and back: strconv.Itoa, strconv.ParseUint. -/
namespace Go.Proofs.YtnpfbjbacakgoaaDoor
open Go.Tn Go.Shelf Go.RowKit

theorem untame : ¬ tame Tryd.prog := by
  have h : (Tryd.prog : Program).globalNamed "strconv.ErrSyntax" = some 0 := by kernel_rfl
  intro e
  unfold tame at e
  rw [h] at e; cases e
/-- a contract that stands as it is -/
theorem fc_calls {P : Program} {f : Nat} {args : List D} {d : D} (ht : ¬ tame P) (hent : Ent P f)
    (h : ∀ (S : Ex) (w : World) (vs : List Value), Laid P S w → (∀ b, 0 < S b → b < w.heap.size) → RdL S w args noPl vs →
      Calls P f vs.toArray w fun e w' => Below w.heap.size w w' ∧ ∃ v, e = .returned v ∧ ∀ S', Rd S' w' d noPl v) : FC P f [] args (.ret d) := by
  refine ⟨hent, fun S w cs vs hla hext h1 h2 => ?_⟩
  simp only [RdL] at h1; subst h1
  rw [List.append_nil]
  have hF : Fx P = Fence.wide := by
    have e : (fun f : FuncId => tame P → (P.funcs[f]?).isSome = true) = fun _ => True := by
      funext g
      exact propext ⟨fun _ => trivial, fun _ e => absurd e ht⟩
    show ({ Fence.wide with fn := fun f => tame P → (P.funcs[f]?).isSome = true } : Fence) = _
    rw [e]; rfl
  show CallsIn (Fx P) 0 P f vs.toArray w _
  rw [hF, callsIn_wide]
  refine Calls.mono (h S w vs hla hext h2) fun e w' ⟨hb, v, he, hv⟩ => ?_
  subst he
  refine ⟨fun b => if b < w.heap.size then S b else 0, hb, fun b hb => by simp only [hb, if_true], fun b hb' => ?_, hv _⟩
  by_cases hlt : b < w.heap.size
  · exact Nat.lt_of_lt_of_le hlt hb.size
  · simp only [hlt, if_false] at hb'; omega

theorem fc_Itoa (n : Int) (hn : InR .i64 n) : FC Tryd.prog 44 [] [.int .i64 n] (.ret (.str (Lib.itoa n))) := by
  refine fc_calls untame ⟨Tryd.f44, by kernel_rfl, by kernel_rfl, by kernel_rfl⟩ fun S w vs hla hext hv => ?_
  obtain ⟨v, r, rfl, hv1, hv2⟩ := hv
  simp only [RdL] at hv2; subst hv2
  simp only [Rd] at hv1; subst hv1
  have hg : (Tryd.prog : Program).globalNamed "internal/strconv.uint64pow10" = some 2 := by kernel_rfl
  obtain ⟨t, z, hh, _⟩ := hla.1 2 hg
  have htab : Lib.TabIs Tryd.prog w "internal/strconv.uint64pow10" .u64 Lib.pow10Tab := by
    unfold Lib.TabIs World.var?
    rw [hg]
    simp only [Option.bind_some, hh]
  refine Calls.mono (Any.strconv_Itoa Tryd.laysM171 n hn.1 hn.2 w htab) fun e w' ⟨he, k, os, hw⟩ => ?_
  subst hw
  refine ⟨Lib.below_grow _ w (Nat.le_refl _) k os, _, he, fun S' => ?_⟩
  have := Lib.itoa_length_le n hn.1 hn.2
  simp only [Rd, true_and]
  omega

theorem below_bytes (w : World) (e : TypeId) (s : ByteArray) : Below w.heap.size w (Lib.bytesWorld w e s) := by
  exact ⟨rfl, rfl, rfl, by rw [Lib.bytesWorld_size]; omega, fun j hj => Lib.bytesWorld_at_old w e s j hj⟩
/-- what strconv.ParseUint(s, 10, 32) hands back: the number, and whether there is an error -/
def puD (s : List UInt8) : D :=
  match Lib.parseUintB 32 s with
  | .ok u => .tup [.int .u64 u, .val .nilIface]
  | .range => .tup [.int .u64 4294967295, .ifc 75 .any]
  | _ => .tup [.int .u64 0, .ifc 75 .any]
theorem fc_PU (s : List UInt8) : FC Tryd.prog 34 [] [.str s, .int .i64 10, .int .i64 32] (.ret (puD s)) := by
  refine fc_calls untame ⟨Tryd.f34, by kernel_rfl, by kernel_rfl, by kernel_rfl⟩ fun S w vs hla hext hv => ?_
  obtain ⟨v, r, rfl, hv1, v2, r2, rfl, hv2, v3, r3, rfl, hv3, hv4⟩ := hv
  simp only [RdL] at hv4; subst hv4
  simp only [Rd] at hv1 hv2 hv3; subst hv2 hv3
  obtain ⟨rfl, hl⟩ := hv1
  have hsz : (⟨s.toArray⟩ : ByteArray).size = s.length := by simp [ByteArray.size]
  have hg1 : (Tryd.prog : Program).globalNamed "strconv.ErrSyntax" = some 0 := by kernel_rfl
  have hg2 : (Tryd.prog : Program).globalNamed "strconv.ErrRange" = some 1 := by kernel_rfl
  unfold puD
  cases hp : Lib.parseUintB 32 s
  · rename_i u
    refine Calls.mono (Any.strconv_ParseUint_10_at32_ok Tryd.laysPu14 ⟨s.toArray⟩ (by omega) u (by simpa using hp) w) fun e w' ⟨he, hw⟩ => ?_
    refine ⟨?_, _, he, fun S' => ?_⟩
    · rcases hw with rfl | rfl
      · exact Below.refl _ _
      · exact below_bytes _ _ _
    · simp only [Rd, RdL]
      exact ⟨[.int .u64 u, .nilIface], rfl, _, _, rfl, rfl, _, _, rfl, rfl, rfl⟩
  · obtain ⟨tp, q, t, z, hh, _⟩ := hla.2 _ (.inl rfl) 0 hg1
    have hvar : w.var? Tryd.prog "strconv.ErrSyntax" = some #[.iface tp q] := by
      unfold World.var?; rw [hg1]; simp only [Option.bind_some, hh]
    refine Calls.mono (Any.strconv_ParseUint_10_at32_syntax_var Tryd.laysPu14 ⟨s.toArray⟩ (by omega) (by simpa using hp) tp q w hvar) fun e w' ⟨N, he, _, _, hb⟩ => ?_
    refine ⟨hb, _, he, fun S' => ?_⟩
    simp only [Rd, RdL]
    exact ⟨[_, _], rfl, _, _, rfl, rfl, _, _, rfl, ⟨_, rfl, trivial⟩, rfl⟩
  · obtain ⟨tp, q, t, z, hh, _⟩ := hla.2 _ (.inr rfl) 1 hg2
    have hvar : w.var? Tryd.prog "strconv.ErrRange" = some #[.iface tp q] := by
      unfold World.var?; rw [hg2]; simp only [Option.bind_some, hh]
    refine Calls.mono (Any.strconv_ParseUint_10_at32_range_var Tryd.laysPu14 ⟨s.toArray⟩ (by omega) (by simpa using hp) tp q w hvar) fun e w' ⟨N, he, _, _, hb⟩ => ?_
    refine ⟨hb, _, he, fun S' => ?_⟩
    simp only [Rd, RdL]
    exact ⟨[_, _], rfl, _, _, rfl, rfl, _, _, rfl, ⟨_, rfl, trivial⟩, rfl⟩
end Go.Proofs.YtnpfbjbacakgoaaDoor

/- Conflicts as records: word, number, records. -/
set_option linter.unusedSimpArgs false
namespace Go.Proofs.YtnpfbjbacakgoaaDoor
open Go.Tn
set_option maxHeartbeats 8000000
set_option maxRecDepth 100000
def wordF (k : Int) : List UInt8 := if k = 1 then [110, 97, 109, 101] else if k = 2 then [99, 111, 108, 117, 109, 110] else if k = 3 then [114, 111, 119] else if k = 4 then [97, 100, 100] else if k = 5 then [99, 101, 108, 108] else []
def c_wd (caps args : List D) : Prop × Out := match caps, args with
  | [], [.int .i64 k] => (True, .ret (.str (wordF k)))
  | _, _ => (False, .ret .any)
theorem fc_word (k : Int) : FC Tryd.prog 35 [] [.int .i64 k] (.ret (.str (wordF k))) := by
  refine fc_M (fn := Tryd.f35) (C := (tab [] [])) (rs := [2]) mixed (by kernel_rfl) (by kernel_rfl) rfl rfl (by kernel_rfl) (by intro ys h; cases h) ?_
  unfold wordF
  by_cases h1 : k < 1
  · have e1 : ¬ k = 1 := by omega
    have e2 : ¬ k = 2 := by omega
    have e3 : ¬ k = 3 := by omega
    have e4 : ¬ k = 4 := by omega
    have e5 : ¬ k = 5 := by omega
    simp +contextual (maxSteps := 5000000) only [go_sem, ↓reduceIte, h1, e1, e2, e3, e4, e5, eI_at, eI_set, List.length_set, tn_add, tn_add1, tn_sub, tn_sub1, sh1, sh1b, half_cast]
  by_cases h2 : 6 ≤ k
  · have e1 : ¬ k = 1 := by omega
    have e2 : ¬ k = 2 := by omega
    have e3 : ¬ k = 3 := by omega
    have e4 : ¬ k = 4 := by omega
    have e5 : ¬ k = 5 := by omega
    simp +contextual (maxSteps := 5000000) only [go_sem, ↓reduceIte, h1, h2, e1, e2, e3, e4, e5, eI_at, eI_set, List.length_set, tn_add, tn_add1, tn_sub, tn_sub1, sh1, sh1b, half_cast]
  · have : k = 1 ∨ k = 2 ∨ k = 3 ∨ k = 4 ∨ k = 5 := by omega
    rcases this with rfl | rfl | rfl | rfl | rfl <;> simp +contextual (maxSteps := 5000000) only [go_sem, ↓reduceIte, eI_at, eI_set, List.length_set, tn_add, tn_add1, tn_sub, tn_sub1, sh1, sh1b, half_cast, Int.reduceEq, Int.reduceNe, Int.reduceLT, Int.reduceLE, Int.reduceToNat, Int.cast_ofNat_Int]
theorem st_wd : StC Tryd.prog 35 c_wd := by
  intro caps args; unfold c_wd; split
  · exact fun _ => fc_word _
  · exact fun h => h.elim
def numF (n : Int) : List UInt8 := if n < 0 then [45] else Lib.itoa n
def c_it (caps args : List D) : Prop × Out := match caps, args with
  | [], [.int .i64 k] => (InR .i64 k, .ret (.str (Lib.itoa k)))
  | _, _ => (False, .ret .any)
theorem st_it : StC Tryd.prog 44 c_it := by
  intro caps args; unfold c_it; split
  · exact fun h => fc_Itoa _ h
  · exact fun h => h.elim
def c_nu (caps args : List D) : Prop × Out := match caps, args with
  | [], [.int .i64 k] => (InR .i64 k, .ret (.str (numF k)))
  | _, _ => (False, .ret .any)
theorem fc_number (k : Int) (hk : InR .i64 k) : FC Tryd.prog 41 [] [.int .i64 k] (.ret (.str (numF k))) := by
  have h := st_it
  refine fc_M (fn := Tryd.f41) (C := (tab [(44, c_it)] [])) (rs := [2]) mixed (by kernel_rfl) (by kernel_rfl) rfl rfl (by kernel_rfl) (by intro ys h; cases h) ?_
  unfold numF
  by_cases h1 : k < 0
  · simp +contextual (maxSteps := 5000000) only [go_sem, ↓reduceIte, h1]
  · simp +contextual (maxSteps := 5000000) only [go_sem, ↓reduceIte, h1, h, c_it, hk]
theorem st_nu : StC Tryd.prog 41 c_nu := by
  intro caps args; unfold c_nu; split
  · exact fun h => fc_number _ h
  · exact fun h => h.elim
end Go.Proofs.YtnpfbjbacakgoaaDoor

/- Conflicts as records: records. -/
set_option linter.unusedSimpArgs false
namespace Go.Proofs.YtnpfbjbacakgoaaDoor
open Go.Tn
set_option maxHeartbeats 16000000
set_option maxRecDepth 100000
def recF (c : Cf) : List (List UInt8) := [wordF c.kind, numF c.row, c.col, c.base, c.ours, c.them]
def okR (c : Cf) : Bool := decide (wordF c.kind ≠ [] ∧ -1 ≤ c.row ∧ c.row ≤ 999999)
def yvR (c : Cf) : List D := [.sl 1 ((recF c).map eS), .bool (okR c)]
def recsY : List Cf → List (List D)
  | [] => []
  | c :: r => yvR c :: (if okR c = true then recsY r else [])
abbrev c0 : Cf := ⟨0, 0, [], [], [], []⟩
theorem eCf_at' (l : List Cf) (i : Nat) (h : i < l.length) : (l.map eCf).getD i [] = eCf (l.getD i c0) := by
  rw [List.getD_eq_getElem?_getD, List.getElem?_map, List.getElem?_eq_getElem h]
  rw [List.getD_eq_getElem?_getD, List.getElem?_eq_getElem h]; rfl
theorem take_snC {l : List Cf} {n : Nat} (h : n < l.length) : l.take (n + 1) = l.take n ++ [l.getD n c0] := by
  rw [List.take_add_one, List.getElem?_eq_getElem h, List.getD_eq_getElem?_getD, List.getElem?_eq_getElem h]; rfl
theorem fc_records1 (l : List Cf) (hl : l.length < 1000000000) (hr : ∀ c ∈ l, InR .i64 c.row) : FC Tryd.prog 40 [.box [.sl 6 (l.map eCf)]] [] (.seq (recsY l)) := by
  refine fcy_M (fn := Tryd.f40) (C := (tab [(35, c_wd), (41, c_nu)] [] [4005, 5004])) mixed (by kernel_rfl) (by kernel_rfl) rfl rfl (by kernel_rfl) (by kernel_rfl) ?_
  have hW := st_wd
  have hN := st_nu
  simp +contextual (maxSteps := 5000000) only [go_sem, ↓reduceIte]
  refine fun _ => M_loopI (fun j : Nat => ⟨[(0, .yld 999), (7, .sl 6 (l.map eCf)), (8, .int .i64 l.length), (9, .int .i64 j)], [(999, .yl (recsY l) ((l.take j).map yvR) false)]⟩) (fun j => l.length - j) (fun j => j ≤ l.length ∧ recsY l = (l.take j).map yvR ++ recsY (l.drop j)) 0 ?_ ?_
  · simp +contextual (maxSteps := 5000000) only [go_sem, ↓reduceIte]
    rfl
  rintro j ⟨hj, hy⟩
  by_cases hlt : j < l.length
  · have hat := eCf_at' l j hlt
    have hsn := take_snC hlt
    have hdr : l.drop j = l.getD j c0 :: l.drop (j + 1) := drop_atS hlt
    have hro := hr (l.getD j c0) (by rw [List.getD_eq_getElem?_getD, List.getElem?_eq_getElem hlt]; exact List.getElem_mem hlt)
    rw [hdr] at hy
    generalize l.getD j c0 = c at hat hsn hy hro
    obtain ⟨ck, cr, cc, cb, co, ct⟩ := c
    simp only [eCf] at hat
    simp +contextual (maxSteps := 5000000) only [go_sem, ↓reduceIte, hlt, hat, hW, c_wd, hN, c_nu]
    refine M_join (fun _ : Unit => ⟨[(0, .yld 999), (4, .loc 4 0), (5, .str (wordF ck)), (6, .bool (okR ⟨ck, cr, cc, cb, co, ct⟩)), (7, .sl 6 (l.map eCf)), (8, .int .i64 l.length), (9, .int .i64 j)], [(999, .yl (recsY l) ((l.take j).map yvR) false), (4, .blk (eCf ⟨ck, cr, cc, cb, co, ct⟩) false)]⟩) (fun _ => True) ?_ ?_
    · by_cases q1 : wordF ck = []
      · have : okR ⟨ck, cr, cc, cb, co, ct⟩ = false := by unfold okR; simp [q1]
        simp +contextual (maxSteps := 5000000) only [go_sem, ↓reduceIte, q1, this, eCf]
        try exact ⟨(), trivial⟩
      · by_cases q2 : -1 ≤ cr
        · have : okR ⟨ck, cr, cc, cb, co, ct⟩ = decide (cr ≤ 999999) := by unfold okR; simp [q1, q2]
          simp +contextual (maxSteps := 5000000) only [go_sem, ↓reduceIte, q1, q2, this, eCf]
          try exact ⟨(), trivial⟩
        · have : okR ⟨ck, cr, cc, cb, co, ct⟩ = false := by unfold okR; simp [q1, q2]
          simp +contextual (maxSteps := 5000000) only [go_sem, ↓reduceIte, q1, q2, this, eCf]
          try exact ⟨(), trivial⟩
    · intro _ _
      simp only [recsY] at hy
      cases hok : okR ⟨ck, cr, cc, cb, co, ct⟩ with
      | true =>
        simp +contextual (maxSteps := 5000000) only [go_sem, ↓reduceIte, hlt, eCf]
        refine M_cut 15 ⟨by decide, by kernel_rfl⟩ ?_
        simp only [List.take_succ_cons, List.take_zero, List.drop_succ_cons, List.drop_zero]
        simp +contextual (maxSteps := 5000000) only [go_sem, ↓reduceIte, hlt, hN, c_nu, hro, eI_at, eI_set, List.length_set, tn_add, tn_add1, tn_sub, tn_sub1, sh1, sh1b, half_cast, Int.reduceEq, Int.reduceNe, Int.reduceLT, Int.reduceLE, Int.reduceToNat, Int.cast_ofNat_Int]
        have hyv : yvR ⟨ck, cr, cc, cb, co, ct⟩ = [D.sl 1 [[D.str (wordF ck)], [D.str (numF cr)], [D.str cc], [D.str cb], [D.str co], [D.str ct]], D.bool true] := by
          unfold yvR; rw [hok]; rfl
        rw [hok] at hy
        rw [← hyv]
        refine ⟨⟨recsY (l.drop (j + 1)), by simpa using hy⟩, fun b _ => ⟨inR64 (by omega) (by omega), fun _ => ⟨j + 1, ⟨by simp, ?_⟩, by omega, by omega, ?_⟩⟩⟩
        · rw [hsn]; simp
        · rw [hsn, hy]; simp
      | false =>
        simp +contextual (maxSteps := 5000000) only [go_sem, ↓reduceIte, hlt, eCf]
        refine M_cut 15 ⟨by decide, by kernel_rfl⟩ ?_
        simp only [List.take_succ_cons, List.take_zero, List.drop_succ_cons, List.drop_zero]
        simp +contextual (maxSteps := 5000000) only [go_sem, ↓reduceIte, hlt, hN, c_nu, hro, eI_at, eI_set, List.length_set, tn_add, tn_add1, tn_sub, tn_sub1, sh1, sh1b, half_cast, Int.reduceEq, Int.reduceNe, Int.reduceLT, Int.reduceLE, Int.reduceToNat, Int.cast_ofNat_Int]
        have hyv : yvR ⟨ck, cr, cc, cb, co, ct⟩ = [D.sl 1 [[D.str (wordF ck)], [D.str (numF cr)], [D.str cc], [D.str cb], [D.str co], [D.str ct]], D.bool false] := by
          unfold yvR; rw [hok]; rfl
        rw [hok] at hy
        rw [← hyv]
        exact ⟨⟨[], by simpa using hy⟩, fun b _ => by rw [hy]; simp⟩
  · have he : j = l.length := by omega
    subst he
    rw [List.drop_length, List.take_length] at hy
    simp +contextual (maxSteps := 5000000) only [go_sem, ↓reduceIte, hlt, List.take_length]
    simp only [recsY, List.append_nil] at hy
    exact hy.symm
def dCf (r : List D) : Cf := match r with | [.int .i64 k, .int .i64 r, .str a, .str b, .str c, .str d] => ⟨k, r, a, b, c, d⟩ | _ => c0
theorem dCf_map (l : List Cf) : (l.map eCf).map dCf = l := by
  rw [List.map_map]
  conv => rhs; rw [← List.map_id l]
  exact List.map_congr_left fun x _ => rfl
def c_rc (caps args : List D) : Prop × Out := match caps, args with
  | [], [.sl 6 l] => (True, .ret (.fn 40 [] [.box [.sl 6 l]]))
  | _, _ => (False, .ret .any)
theorem st_rc : StC Tryd.prog 31 c_rc := by
  intro caps args; unfold c_rc; split
  · intro _
    refine fc_M (fn := Tryd.f31) (C := (tab [] [])) (rs := [2]) mixed (by kernel_rfl) (by kernel_rfl) rfl rfl (by kernel_rfl) (by intro ys h; cases h) ?_
    simp +contextual (maxSteps := 5000000) only [go_sem, ↓reduceIte]
  · exact fun h => h.elim
def c_rc1 (caps args : List D) : Prop × Out := match caps, args with
  | [.box [.sl 6 l]], [] => (∃ k : List Cf, l = k.map eCf ∧ k.length < 1000000000 ∧ ∀ c ∈ k, InR .i64 c.row, .seq (recsY (l.map dCf)))
  | _, _ => (False, .ret .any)
theorem st_rc1 : StC Tryd.prog 40 c_rc1 := by
  intro caps args; unfold c_rc1; split
  · rintro ⟨k, rfl, h1, h2⟩
    rw [dCf_map]
    exact fc_records1 k h1 h2
  · exact fun h => h.elim
/- the report: what comes before the first that is none; all, or an error -/
def repF (l : List Cf) : List (List (List UInt8)) := l.map recF
def hdR : List (List UInt8) := [[107, 105, 110, 100], [114, 111, 119], [99, 111, 108, 117, 109, 110], [98, 97, 115, 101], [111, 117, 114, 115], [116, 104, 101, 105, 114, 115]]
def rpOut (l : List Cf) : D := if (∀ c ∈ l, okR c = true) then .tup [.sl 1 ((hdR :: repF l).map eR), .int .i64 0] else .tup [.nil, .int .i64 13]
end Go.Proofs.YtnpfbjbacakgoaaDoor

/- A table's copy; a table with marks, as the document has it. -/
set_option linter.unusedSimpArgs false
namespace Go.Proofs.YtnpfbjbacakgoaaDoor
open Go.Tn
set_option maxHeartbeats 16000000
set_option maxRecDepth 100000
theorem fc_rFind (t : Tab) (s : List UInt8) : FC Tryd.prog 30 [] [.agg [.sl 1 (t.1.map eS), .sl 1 (t.2.map eR)], .str s] (.ret (.int .i64 (fndS s t.1 0))) := by
  refine fc_M (fn := Tryd.f30) (C := (tab [] [])) (rs := [4]) mixed (by kernel_rfl) (by kernel_rfl) rfl rfl (by kernel_rfl) (by intro ys h; cases h) ?_
  simp +contextual (maxSteps := 5000000) only [go_sem, ↓reduceIte]
  refine M_loopI (fun i : Nat => ⟨[(1, .str s), (2, .loc 2 0), (5, .int .i64 i)], [(2, .blk [.sl 1 (t.1.map eS), .sl 1 (t.2.map eR)] false)]⟩) (fun i => t.1.length - i) (fun i => i ≤ t.1.length ∧ fndS s (t.1.drop i) i = fndS s t.1 0) 0 ?_ ?_
  · simp +contextual (maxSteps := 5000000) only [go_sem, ↓reduceIte]
    rfl
  rintro i ⟨hi, hf⟩
  by_cases hlt : i < t.1.length
  · have hat := eS_at t.1 i hlt
    rw [drop_atS (d := []) hlt] at hf
    simp only [fndS] at hf
    by_cases q : t.1.getD i [] = s
    · rw [if_pos q] at hf
      rw [← hf]
      simp +contextual (maxSteps := 5000000) only [go_sem, ↓reduceIte, hlt, hat, q]
    · rw [if_neg q] at hf
      simp +contextual (maxSteps := 5000000) only [go_sem, ↓reduceIte, hlt, hat, q]
      exact fun _ => ⟨inR64 (by omega) (by omega), fun _ => ⟨i + 1, by simp, by omega, by omega, hf⟩⟩
  · rw [List.drop_of_length_le (by omega)] at hf
    simp only [fndS] at hf
    rw [← hf]
    simp +contextual (maxSteps := 5000000) only [go_sem, ↓reduceIte, hlt]
def c_rF (caps args : List D) : Prop × Out := match caps, args with
  | [], [.agg [.sl 1 l, .sl 1 k], .str s] => (l = (l.map dS).map eS ∧ k = (k.map dR).map eR, .ret (.int .i64 (fndS s (l.map dS) 0)))
  | _, _ => (False, .ret .any)
theorem st_rF : StC Tryd.prog 30 c_rF := by
  intro caps args; unfold c_rF; split
  · rename_i l k s
    rintro ⟨h1, h2⟩
    have := fc_rFind (l.map dS, k.map dR) s
    simp only [← h1, ← h2] at this
    exact this
  · exact fun h => h.elim
theorem getD_memX {α : Type} {l : List α} {i : Nat} {d : α} (h : i < l.length) : l.getD i d ∈ l := by
  rw [List.getD_eq_getElem?_getD, List.getElem?_eq_getElem h]; exact List.getElem_mem h
theorem take_snY {α : Type} {l : List α} {n : Nat} {d : α} (h : n < l.length) : l.take (n + 1) = l.take n ++ [l.getD n d] := by
  rw [List.take_add_one, List.getElem?_eq_getElem h, List.getD_eq_getElem?_getD, List.getElem?_eq_getElem h]; rfl
theorem fcm_Copy (t : Tab) (h1 : t.1.length < 1000000000) (h2 : t.2.length < 1000000000) (h3 : ∀ r ∈ t.2, r.length < 1000000000) :
    FCM Tryd.prog 29 [(false, .agg [.sl 1 (t.1.map eS), .sl 1 (t.2.map eR)])] [] [(2005, .vec 9 1 (t.1.map eS) 0), (27, .vec 22 1 (t.2.map eR) 0)]
      (.ret (.agg [.vec 2005 t.1.length, .vec 27 t.2.length])) := by
  refine fcmc_of (fn := Tryd.f29) (rt := 25) (r := 2) (i := 2) (C := tab [] [] [4005, 5000]) mixed (by kernel_rfl) (by kernel_rfl) rfl rfl tfTab (by kernel_rfl) ?_ ?_
  · simp +contextual (maxSteps := 5000000) only [go_sem, ↓reduceIte]
  simp only [y25]
  simp +contextual (maxSteps := 5000000) only [go_sem, ↓reduceIte]
  refine M_join (fun _ : Unit => ⟨[(1, .loc 1 0), (2, .loc 2 0)], [(1, .blk [.sl 1 (t.1.map eS), .sl 1 (t.2.map eR)] false), (2, .blk [.nil, .nil] false), (5, .vec 0 0 [] 0)]⟩) (fun _ => True) ?_ ?_
  · simp +contextual (maxSteps := 5000000) only [go_sem, ↓reduceIte]
    exact ⟨(), trivial⟩
  intro _ _
  simp +contextual (maxSteps := 5000000) only [go_sem, ↓reduceIte]
  refine ⟨by omega, fun _ => ?_⟩
  refine M_loopI (fun i : Nat => ⟨[(1, .loc 1 0), (2, .loc 2 0), (3, .loc 3 0), (4, .int .i64 i)], [(1, .blk [.sl 1 (t.1.map eS), .sl 1 (t.2.map eR)] false), (2, .blk [.nil, .nil] false), (3, .blk [.vec 2005 t.1.length, .vec 27 i] false), (2005, .vec 9 1 (t.1.map eS) 0), (27, .vec 22 1 ((t.2.take i).map eR) 0)]⟩) (fun i => t.2.length - i) (fun i => i ≤ t.2.length) 0 ?_ ?_
  · simp +contextual (maxSteps := 5000000) only [go_sem, ↓reduceIte]
    rfl
  intro i hi
  by_cases hlt : i < t.2.length
  · have hat := eR_at t.2 i hlt
    have hr := h3 _ (getD_memX (d := ([] : List (List UInt8))) hlt)
    have hsn := take_snY (d := ([] : List (List UInt8))) hlt
    simp +contextual (maxSteps := 5000000) only [go_sem, ↓reduceIte, hlt, hat]
    intro _
    refine M_cutZ 10 ⟨by decide, by kernel_rfl⟩ ?_
    simp only [List.take_succ_cons, List.take_zero, List.drop_succ_cons, List.drop_zero]
    simp +contextual (maxSteps := 5000000) only [go_sem, ↓reduceIte, hlt, hat, hr]
    exact ⟨by omega, fun _ => ⟨⟨by omega, by omega⟩, fun _ => ⟨inR64 (by omega) (by omega), fun _ => ⟨i + 1, ⟨by simp, rfl, by rw [hsn, List.map_append]; rfl⟩, by omega, by omega⟩⟩⟩⟩
  · have he : i = t.2.length := by omega
    subst he
    simp +contextual (maxSteps := 5000000) only [go_sem, ↓reduceIte, hlt, List.take_length, finMC, finMB, locR]
end Go.Proofs.YtnpfbjbacakgoaaDoor

/- A table with marks: mark.Mark. -/
set_option linter.unusedSimpArgs false
namespace Go.Proofs.YtnpfbjbacakgoaaDoor
open Go.Tn
set_option maxHeartbeats 16000000
set_option maxRecDepth 100000
def treeM : Tr := (.nodeF (.cons 0 (.nodeF (.cons 1 (.nodeF (.cons 2 (.nodeF (.cons 3 (.nodeF (.cons 4 (.nodeF (.cons 5 (.nodeF (.cons 6 (.nodeF (.cons 7 .leaf .nil)) .nil)) .nil)) .nil)) .nil)) .nil)) (.cons 2 (.nodeF (.cons 1 (.nodeF (.cons 3 (.nodeF (.cons 4 (.nodeF (.cons 5 (.nodeF (.cons 6 (.nodeF (.cons 7 .leaf .nil)) .nil)) .nil)) .nil)) .nil)) (.cons 3 (.nodeF (.cons 1 (.nodeF (.cons 4 (.nodeF (.cons 5 (.nodeF (.cons 6 (.nodeF (.cons 7 .leaf .nil)) .nil)) .nil)) .nil)) (.cons 4 (.nodeF (.cons 1 (.nodeF (.cons 5 (.nodeF (.cons 6 (.nodeF (.cons 7 .leaf .nil)) .nil)) .nil)) .nil)) .nil))) .nil))) .nil))) (.cons 2 (.nodeF (.cons 0 (.nodeF (.cons 1 (.nodeF (.cons 3 (.nodeF (.cons 4 (.nodeF (.cons 5 (.nodeF (.cons 6 (.nodeF (.cons 7 .leaf .nil)) .nil)) .nil)) .nil)) .nil)) (.cons 3 (.nodeF (.cons 1 (.nodeF (.cons 4 (.nodeF (.cons 5 (.nodeF (.cons 6 (.nodeF (.cons 7 .leaf .nil)) .nil)) .nil)) .nil)) (.cons 4 (.nodeF (.cons 1 (.nodeF (.cons 5 (.nodeF (.cons 6 (.nodeF (.cons 7 .leaf .nil)) .nil)) .nil)) .nil)) .nil))) .nil))) (.cons 3 (.nodeF (.cons 0 (.nodeF (.cons 1 (.nodeF (.cons 4 (.nodeF (.cons 5 (.nodeF (.cons 6 (.nodeF (.cons 7 .leaf .nil)) .nil)) .nil)) .nil)) (.cons 4 (.nodeF (.cons 1 (.nodeF (.cons 5 (.nodeF (.cons 6 (.nodeF (.cons 7 .leaf .nil)) .nil)) .nil)) .nil)) .nil))) (.cons 4 (.nodeF (.cons 0 (.nodeF (.cons 1 (.nodeF (.cons 5 (.nodeF (.cons 6 (.nodeF (.cons 7 .leaf .nil)) .nil)) .nil)) .nil)) .nil)) .nil))) .nil))) .nil)))
abbrev ttab (l : List (Nat × (List D → List D → Prop × Out))) : Nat := 0
def hd1 (t : Tab) (l : List Cf) (i : Nat) : Hd := ⟨[(1, .sl 6 (l.map eCf)), (4, .loc 4 0), (5, .loc 5 0), (17, .sl 1 (t.2.map eR)), (18, .int .i64 t.2.length), (19, .int .i64 i)],
  (4, .blk [.nil, .nil] false) :: (5, .blk [.vec 14 t.1.length, .vec 28 i] false) :: (14, .vec 9 1 (t.1.map eS) 0) :: (28, .nv 22 (idsF 28 0 (t.2.take i))) :: (990027, .vec 0 0 [] 0) :: famF 28 9 0 (t.2.take i)⟩
theorem getD_memS {α : Type} {l : List α} {i : Nat} {d : α} (h : i < l.length) : l.getD i d ∈ l := by
  rw [List.getD_eq_getElem?_getD, List.getElem?_eq_getElem h]; exact List.getElem_mem h
theorem take_sn {α : Type} {l : List α} {n : Nat} {d : α} (h : n < l.length) : l.take (n + 1) = l.take n ++ [l.getD n d] := by
  rw [List.take_add_one, List.getElem?_eq_getElem h, List.getD_eq_getElem?_getD, List.getElem?_eq_getElem h]; rfl
theorem markR_len (rs : Rws) (c : Cf) (k : Int) : (markR rs c k).map List.length = rs.map List.length := by
  unfold markR
  split
  · rename_i h
    have hth := h.2
    unfold thF at hth
    simp only [decide_eq_true_eq] at hth
    apply List.ext_getElem
    · simp
    · intro n h1 h2
      simp only [List.getElem_map, List.getElem_set]
      split
      · rename_i he
        have : rs.getD c.row.toNat [] = rs[n]'(by simpa using h2) := by
          subst he
          rw [List.getD_eq_getElem?_getD, List.getElem?_eq_getElem (by omega)]; rfl
        rw [List.length_set, this]
      · rfl
  · rfl
theorem marks_len (h : List (List UInt8)) : ∀ (l : List Cf) (rs : Rws), (marksF h rs l).map List.length = rs.map List.length
  | [], _ => rfl
  | c :: l, rs => by
    show (marksF h (markR rs c _) l).map _ = _
    rw [marks_len h l, markR_len]
theorem marks_snoc (h : List (List UInt8)) (rs : Rws) (l : List Cf) (c : Cf) : marksF h rs (l ++ [c]) = markR (marksF h rs l) c (fndS c.col h 0) := by
  unfold marksF; rw [List.foldl_append]; rfl
def hd2 (t : Tab) (l : List Cf) (j : Nat) : Hd := ⟨[(4, .loc 4 0), (5, .loc 5 0), (8, .fn 28 [] []), (31, .sl 6 (l.map eCf)), (32, .int .i64 l.length), (33, .int .i64 j)],
  (4, .blk [.nil, .nil] false) :: (5, .blk [.vec 14 t.1.length, .vec 28 t.2.length] false) :: (14, .vec 9 1 (t.1.map eS) 0) :: (28, .nv 22 (idsF 28 0 (marksF t.1 t.2 (l.take j)))) :: famF 28 9 0 (marksF t.1 t.2 (l.take j))⟩
def hd3 (t : Tab) (l : List Cf) (j : Nat) (R : Rws) (c : Cf) (col : Int) : Hd := ⟨[(4, .loc 4 0), (5, .loc 5 0), (8, .fn 28 [] []), (10, .loc 10 0), (11, .loc 11 0), (31, .sl 6 (l.map eCf)), (32, .int .i64 l.length), (33, .int .i64 j)],
  (4, .blk [.nil, .nil] false) :: (5, .blk [.vec 14 t.1.length, .vec 28 t.2.length] false) :: (14, .vec 9 1 (t.1.map eS) 0) :: (28, .nv 22 (idsF 28 0 R)) :: (10, .blk (eCf c) false) ::
  (11, .blk [.vec 14 t.1.length, .vec 28 t.2.length, .int .i64 c.row, .int .i64 col] false) :: famF 28 9 0 R⟩
theorem eCf_at (l : List Cf) (i : Nat) (h : i < l.length) : (l.map eCf).getD i [] = eCf (l.getD i ⟨0, 0, [], [], [], []⟩) := by
  rw [List.getD_eq_getElem?_getD, List.getElem?_map, List.getElem?_eq_getElem h]
  rw [List.getD_eq_getElem?_getD, List.getElem?_eq_getElem h]; rfl
theorem fc_Mark (t : Tab) (l : List Cf) (h1 : t.1.length < 1000000000) (h2 : t.2.length < 1000000000) (h3 : ∀ r ∈ t.2, r.length < 1000000000) (h4 : l.length < 1000000000) (h5 : ∀ c ∈ l, okCf c) :
    FC Tryd.prog 14 [] [dTab t, .sl 6 (l.map eCf)] (.ret (.agg [.sl 1 (t.1.map eS), .sl 1 ((marksF t.1 t.2 l).map eR)])) := by
  refine fcc_of (fn := Tryd.f14) (rt := 25) (r := 4) (i := 4) (C := tab [(27, c_Clone 9 1), (28, c_th), (24, c_tF), (11, c_Txt)] [] [7005, 6011, 5011]) mixed (by kernel_rfl) (by kernel_rfl) rfl rfl tfTab (by kernel_rfl) (by intro ys h; cases h) ?_
  have hC := st_CloneS
  have hT := st_th
  have hF := st_tF
  have hX := st_Txt
  simp only [y25]
  simp +contextual (maxSteps := 5000000) only [go_sem, ↓reduceIte, hC, c_Clone, h1]
  intro _
  refine M_loopI (fun i : Nat => hd1 t l i) (fun i => t.2.length - i) (fun i => i ≤ t.2.length) 0 ?_ ?_
  · unfold hd1
    simp +contextual (maxSteps := 5000000) only [go_sem, ↓reduceIte, List.take_zero, idsF, famF]
    exact ⟨rfl, trivial⟩
  intro i hi
  unfold hd1
  have hln : (t.2.take i).length = i := by rw [List.length_take]; omega
  have hids : (idsF 28 0 (t.2.take i)).length = i := by rw [ids_len]; exact hln
  by_cases hlt : i < t.2.length
  · have hat := eR_at t.2 i hlt
    have hr := h3 _ (getD_memS (d := ([] : List (List UInt8))) hlt)
    have hU1 : mkU (famF 28 9 0 (t.2.take i)) (inn 28 i) = false := famU_no0 (by omega)
    have hU2 : mkU (famF 28 9 0 (t.2.take i)) (inn 27 0) = false := famU_lit (by decide)
    have hH2 : mkH (famF 28 9 0 (t.2.take i)) (inn 27 0) = none := famH_lit (by decide)
    have hsn := take_sn (d := ([] : List (List UInt8))) hlt
    generalize t.2.getD i [] = r at hat hr hsn
    simp +contextual (maxSteps := 5000000) only [go_sem, ↓reduceIte, hlt, hat]
    refine M_tree treeM (by show chkTr _ _ _ _ = true; kernel_rfl) ?_
    simp +contextual (maxSteps := 5000000) only [go_sem, ↓reduceIte, treeM, hC, c_Clone, hr, inn_ne, inn_ne', inn_lt', famH_lit, famU_lit, hU1, hU2, hH2, hids]
    refine ⟨by omega, fun _ => ⟨inR64 (by omega) (by omega), fun _ => ⟨i + 1, ⟨by simp, rfl, ⟨by rw [hsn, ids_snoc, hln, Nat.zero_add], ids_in0 fun j hj => ?_⟩, fam_ent0 fun j hj => ?_⟩, by omega, by omega⟩⟩⟩
    · simp only [upd]
      simp only [inn_ne, Nat.reduceAdd, Nat.reduceMul, Nat.reduceLT, if_false]
      exact famU_at0 hj
    · have hj' : j < i + 1 := by rw [List.length_take] at hj; omega
      rw [hsn]
      simp only [upd]
      simp only [inn_ne, inn_lt', Nat.reduceAdd, Nat.reduceMul, Nat.reduceLT, if_false, inn_eq]
      by_cases hji : j = i
      · subst hji
        simp [List.getD_eq_getElem?_getD, hln]
      · have hjl : j < (t.2.take i).length := by omega
        rw [if_neg hji, fam_at0 hjl]
        simp [List.getD_eq_getElem?_getD, List.getElem?_append_left hjl]
  · obtain rfl : i = t.2.length := by omega
    rw [List.take_length]
    rw [List.take_length] at hids
    simp +contextual (maxSteps := 5000000) only [go_sem, ↓reduceIte, hlt, hids]
    intro _
    refine M_loopI (fun j : Nat => hd2 t l j) (fun j => l.length - j) (fun j => j ≤ l.length) 0 ?_ ?_
    · unfold hd2
      simp +contextual (maxSteps := 5000000) only [go_sem, ↓reduceIte, List.take_zero, marksF, List.foldl_nil]
      refine ⟨rfl, ids_in0 fun j hj => ?_, fam_ent0 fun j hj => ?_⟩
      · simp only [upd]
        simp only [inn_ne, Nat.reduceAdd, Nat.reduceMul, Nat.reduceLT, if_false]
        exact famU_at0 hj
      · simp only [upd]
        simp only [inn_ne, Nat.reduceAdd, Nat.reduceMul, Nat.reduceLT, if_false]
        exact fam_at0 hj
    intro j hj
    unfold hd2
    have hml := marks_len t.1 (l.take j) t.2
    have hRl : (marksF t.1 t.2 (l.take j)).length = t.2.length := by simpa using congrArg List.length hml
    by_cases hjl : j < l.length
    · have hok := h5 _ (getD_memS (d := (⟨0, 0, [], [], [], []⟩ : Cf)) hjl)
      have hcf := eCf_at l j hjl
      have hsn := take_sn (d := (⟨0, 0, [], [], [], []⟩ : Cf)) hjl
      have hms := marks_snoc t.1 t.2 (l.take j) (l.getD j ⟨0, 0, [], [], [], []⟩)
      rw [← hsn] at hms
      generalize l.getD j ⟨0, 0, [], [], [], []⟩ = c at hok hcf hms
      generalize marksF t.1 t.2 (l.take j) = R at hml hRl hms
      obtain ⟨ck, cr, cc, cb, co, ct⟩ := c
      have hk : ∃ k : List (List UInt8), t.1.map eS = k.map eS ∧ k.length < 1000000000 := ⟨t.1, rfl, h1⟩
      have hk2 : ∃ rs : Rws, R.map eR = rs.map eR ∧ rs.length < 1000000000 := ⟨R, rfl, by omega⟩
      simp only [eCf] at hcf
      have hidl : (idsF 28 0 R).length = t.2.length := by rw [ids_len]; exact hRl
      have hms : marksF t.1 t.2 (l.take (j + 1)) = markR R ⟨ck, cr, cc, cb, co, ct⟩ (fndS cc t.1 0) := hms
      generalize hcol : fndS cc t.1 0 = col at hms
      simp +contextual (maxSteps := 5000000) only [go_sem, ↓reduceIte, hjl, hcf, hF, c_tF, unS, hk, inn_ne, inn_ne', famH_lit, famU_lit, hidl, hcol]
      refine M_join (fun _ : Unit => hd3 t l j R ⟨ck, cr, cc, cb, co, ct⟩ col) (fun _ => True) ?_ ?_
      · unfold hd3
        simp +contextual (maxSteps := 5000000) only [go_sem, ↓reduceIte, hjl, hcf, hF, c_tF, unS, hk, inn_ne, inn_ne', famH_lit, famU_lit, hidl, hcol, eCf]
        refine ⟨ids_new0 (e := 9) (n := 3) fun q hq => ?_, (), ids_in0 fun q hq => ?_, fam_ent0 fun q hq => ?_⟩
        all_goals simp only [upd]
        all_goals simp only [inn_ne, Nat.reduceAdd, Nat.reduceMul, Nat.reduceLT, if_false]
        · exact fam_at0 hq
        · exact famU_at0 hq
        · exact fam_at0 hq
      · intro _ _
        unfold hd3
        have hcv : (idsF 28 0 R).map (fun q => [cv (mkH (hd3 t l j R ⟨ck, cr, cc, cb, co, ct⟩ col).o) (3 + 1) (.vec q.1 q.2)]) = R.map eR := ids_cv0 fun q hq => by
          unfold hd3
          simp only [mkH, upd]
          simp only [inn_ne, Nat.reduceAdd, Nat.reduceMul, Nat.reduceLT, if_false]
          exact fam_at0 hq
        unfold hd3 at hcv
        simp only [mkH, eCf, Nat.reduceAdd] at hcv
        have hnw : (nvD (idsF 28 0 R)).foldr (fun c q => new (mkH (hd3 t l j R ⟨ck, cr, cc, cb, co, ct⟩ col).o) (3 + 1) c ∧ q) True := ids_new0 fun q hq => by
          unfold hd3
          simp only [mkH, upd]
          simp only [inn_ne, Nat.reduceAdd, Nat.reduceMul, Nat.reduceLT, if_false]
          exact fam_at0 hq
        unfold hd3 at hnw
        simp only [mkH, eCf, Nat.reduceAdd] at hnw
        have hsame : markR R ⟨ck, cr, cc, cb, co, ct⟩ col = R → ∀ s', s' = j + 1 → marksF t.1 t.2 (l.take s') = R := fun h s' e => by rw [e, hms, h]
        by_cases hkd : ck = 5 ∨ ck = 4
        · have hth : thF R cr col = true ∨ thF R cr col = false := by cases thF R cr col <;> simp
          rcases hth with hth | hth
          · have hth' := hth
            unfold thF at hth'
            simp only [decide_eq_true_eq] at hth'
            obtain ⟨q0, q1, q2, q3⟩ := hth'
            obtain ⟨i, rfl⟩ : ∃ i : Nat, cr = i := ⟨cr.toNat, by omega⟩
            obtain ⟨k, rfl⟩ : ∃ i : Nat, col = i := ⟨col.toNat, by omega⟩
            have hi : i < R.length := by omega
            have hin : i < t.2.length := by omega
            rw [Int.toNat_natCast] at q3
            have hkk : k < (R.getD i []).length := by omega
            have hidat := ids_at 28 R 0 i hi
            rw [Nat.zero_add] at hidat
            have hfam := fam_at0 (i := 28) (e := 9) hi
            rcases hkd with rfl | rfl
            · have hmk : markR R ⟨5, i, cc, cb, co, ct⟩ k = R.set i ((R.getD i []).set k (txF ⟨5, i, cc, cb, co, ct⟩)) := by
                unfold markR; rw [if_pos ⟨by simp, hth⟩]; simp only [Int.toNat_natCast]
              simp +contextual (maxSteps := 5000000) only [go_sem, ↓reduceIte, hjl, hT, c_th, unR_map, hk2, hth, ↓hcv, hnw, hX, c_Txt, hok, hi, hin, hkk, hidat, hfam, inn_ne, inn_ne', famH_lit, famU_lit, hidl, eCf]
              have hln2 := congrArg List.length (markR_len R ⟨5, i, cc, cb, co, ct⟩ k)
              simp only [List.length_map] at hln2
              refine ⟨by omega, fun _ => ⟨inR64 (by omega) (by omega), fun _ => ⟨j + 1, ⟨by simp, ⟨?_, ?_⟩, ?_⟩, by omega, by omega⟩⟩⟩
              · rw [hms]; exact ids_congr 28 _ _ 0 (markR_len _ _ _).symm
              · rw [hms]; refine ids_in0 fun q hq => ?_
                simp only [upd]
                simp only [inn_ne, Nat.reduceAdd, Nat.reduceMul, Nat.reduceLT, if_false]
                exact famU_at0 hq
              · rw [hms]; refine fam_ent0 fun q hq => ?_
                simp only [upd]
                simp only [inn_ne, Nat.reduceAdd, Nat.reduceMul, Nat.reduceLT, if_false, inn_eq]
                rw [hmk]
                by_cases hqi : q = i
                · subst hqi
                  have hatc := eS_at (R.getD q []) k hkk
                  rw [if_pos rfl, hatc]
                  have : (R.set q ((R.getD q []).set k (txF ⟨5, q, cc, cb, co, ct⟩))).getD q [] = (R.getD q []).set k (txF ⟨5, q, cc, cb, co, ct⟩) := by
                    rw [List.getD_eq_getElem?_getD, List.getElem?_set_self hi]; rfl
                  rw [this, List.map_set]; rfl
                · have hql : q < R.length := by omega
                  have : (R.set i ((R.getD i []).set k (txF ⟨5, i, cc, cb, co, ct⟩))).getD q [] = R.getD q [] := by
                    rw [List.getD_eq_getElem?_getD, List.getElem?_set_ne (Ne.symm hqi), ← List.getD_eq_getElem?_getD]
                  rw [if_neg hqi, fam_at0 hql, this]
            · have hmk : markR R ⟨4, i, cc, cb, co, ct⟩ k = R.set i ((R.getD i []).set k (txF ⟨4, i, cc, cb, co, ct⟩)) := by
                unfold markR; rw [if_pos ⟨by simp, hth⟩]; simp only [Int.toNat_natCast]
              simp +contextual (maxSteps := 5000000) only [go_sem, ↓reduceIte, hjl, hT, c_th, unR_map, hk2, hth, ↓hcv, hnw, hX, c_Txt, hok, hi, hin, hkk, hidat, hfam, inn_ne, inn_ne', famH_lit, famU_lit, hidl, eCf]
              have hln2 := congrArg List.length (markR_len R ⟨4, i, cc, cb, co, ct⟩ k)
              simp only [List.length_map] at hln2
              refine ⟨by omega, fun _ => ⟨inR64 (by omega) (by omega), fun _ => ⟨j + 1, ⟨by simp, ⟨?_, ?_⟩, ?_⟩, by omega, by omega⟩⟩⟩
              · rw [hms]; exact ids_congr 28 _ _ 0 (markR_len _ _ _).symm
              · rw [hms]; refine ids_in0 fun q hq => ?_
                simp only [upd]
                simp only [inn_ne, Nat.reduceAdd, Nat.reduceMul, Nat.reduceLT, if_false]
                exact famU_at0 hq
              · rw [hms]; refine fam_ent0 fun q hq => ?_
                simp only [upd]
                simp only [inn_ne, Nat.reduceAdd, Nat.reduceMul, Nat.reduceLT, if_false, inn_eq]
                rw [hmk]
                by_cases hqi : q = i
                · subst hqi
                  have hatc := eS_at (R.getD q []) k hkk
                  rw [if_pos rfl, hatc]
                  have : (R.set q ((R.getD q []).set k (txF ⟨4, q, cc, cb, co, ct⟩))).getD q [] = (R.getD q []).set k (txF ⟨4, q, cc, cb, co, ct⟩) := by
                    rw [List.getD_eq_getElem?_getD, List.getElem?_set_self hi]; rfl
                  rw [this, List.map_set]; rfl
                · have hql : q < R.length := by omega
                  have : (R.set i ((R.getD i []).set k (txF ⟨4, i, cc, cb, co, ct⟩))).getD q [] = R.getD q [] := by
                    rw [List.getD_eq_getElem?_getD, List.getElem?_set_ne (Ne.symm hqi), ← List.getD_eq_getElem?_getD]
                  rw [if_neg hqi, fam_at0 hql, this]
          · have hms' : marksF t.1 t.2 (l.take (j + 1)) = R := by rw [hms]; unfold markR; rw [if_neg (fun h => by rw [hth] at h; exact absurd h.2 (by decide))]
            rcases hkd with rfl | rfl
            · simp +contextual (maxSteps := 5000000) only [go_sem, ↓reduceIte, hjl, hT, c_th, unR_map, hk2, hth, ↓hcv, hnw, inn_ne, inn_ne', famH_lit, famU_lit, hidl, eCf]
              refine ⟨inR64 (by omega) (by omega), fun _ => ⟨j + 1, ⟨by simp, ⟨by rw [hms'], ?_⟩, ?_⟩, by omega, by omega⟩⟩
              · rw [hms']; refine ids_in0 fun q hq => ?_
                simp only [upd]
                simp only [inn_ne, Nat.reduceAdd, Nat.reduceMul, Nat.reduceLT, if_false]
                exact famU_at0 hq
              · rw [hms']; refine fam_ent0 fun q hq => ?_
                simp only [upd]
                simp only [inn_ne, Nat.reduceAdd, Nat.reduceMul, Nat.reduceLT, if_false]
                exact fam_at0 hq
            · simp +contextual (maxSteps := 5000000) only [go_sem, ↓reduceIte, hjl, hT, c_th, unR_map, hk2, hth, ↓hcv, hnw, inn_ne, inn_ne', famH_lit, famU_lit, hidl, eCf]
              refine ⟨inR64 (by omega) (by omega), fun _ => ⟨j + 1, ⟨by simp, ⟨by rw [hms'], ?_⟩, ?_⟩, by omega, by omega⟩⟩
              · rw [hms']; refine ids_in0 fun q hq => ?_
                simp only [upd]
                simp only [inn_ne, Nat.reduceAdd, Nat.reduceMul, Nat.reduceLT, if_false]
                exact famU_at0 hq
              · rw [hms']; refine fam_ent0 fun q hq => ?_
                simp only [upd]
                simp only [inn_ne, Nat.reduceAdd, Nat.reduceMul, Nat.reduceLT, if_false]
                exact fam_at0 hq
        · have hk5 : ¬ ck = 5 := fun e => hkd (.inl e)
          have hk4 : ¬ ck = 4 := fun e => hkd (.inr e)
          have hms' : marksF t.1 t.2 (l.take (j + 1)) = R := by rw [hms]; unfold markR; rw [if_neg (fun h => hkd h.1)]
          simp +contextual (maxSteps := 5000000) only [go_sem, ↓reduceIte, hjl, hk5, hk4, inn_ne, inn_ne', famH_lit, famU_lit, hidl, eCf]
          refine ⟨inR64 (by omega) (by omega), fun _ => ⟨j + 1, ⟨by simp, ⟨by rw [hms'], ?_⟩, ?_⟩, by omega, by omega⟩⟩
          · rw [hms']; refine ids_in0 fun q hq => ?_
            simp only [upd]
            simp only [inn_ne, Nat.reduceAdd, Nat.reduceMul, Nat.reduceLT, if_false]
            exact famU_at0 hq
          · rw [hms']; refine fam_ent0 fun q hq => ?_
            simp only [upd]
            simp only [inn_ne, Nat.reduceAdd, Nat.reduceMul, Nat.reduceLT, if_false]
            exact fam_at0 hq
    · obtain rfl : j = l.length := by omega
      rw [List.take_length] at hRl ⊢
      generalize marksF t.1 t.2 l = R at hRl
      have hidl : (idsF 28 0 R).length = t.2.length := by rw [ids_len]; exact hRl
      have hfi : ∀ q, q < R.length → upd (upd (upd (upd (upd (mkH (famF 28 9 0 R)) 28 (some (LObj.nv 22 (idsF 28 0 R)))) 14 (some (LObj.vec 9 1 (t.1.map eS) 0))) 5 (some (LObj.blk [D.vec 14 t.1.length, D.vec 28 t.2.length] false))) 4 (some (LObj.blk [D.nil, D.nil] false))) 4
          (some (LObj.blk [D.vec 14 t.1.length, D.vec 28 t.2.length] false)) (inn 28 q) = some (.vec 9 1 ((R.getD q []).map eS) 0) := fun q hq => by
        simp only [upd]
        simp only [inn_ne, Nat.reduceAdd, Nat.reduceMul, Nat.reduceLT, if_false]
        exact fam_at0 hq
      have hcv := ids_cv0 (n := 3) hfi
      have hnw := ids_new0 (n := 3) hfi
      simp only [Nat.reduceAdd] at hcv hnw
      simp +contextual (maxSteps := 5000000) only [go_sem, ↓reduceIte, hjl, inn_ne, inn_ne', famH_lit, famU_lit, hidl, finC, finCB, locR, ↓hcv, hnw]
end Go.Proofs.YtnpfbjbacakgoaaDoor

/- A table with marks, as the document has it. -/
set_option linter.unusedSimpArgs false
namespace Go.Proofs.YtnpfbjbacakgoaaDoor
open Go.Tn
set_option maxHeartbeats 16000000
set_option maxRecDepth 100000
def cm_Cp (ds : List D) (_ : Hp) : MS := match ds with
  | [.agg [.sl 1 l, .sl 1 k]] => .yes (l = (l.map dS).map eS ∧ k = (k.map dR).map eR ∧ l.length < 1000000000 ∧ k.length < 1000000000 ∧ ∀ r ∈ k.map dR, r.length < 1000000000) []
      [(2005, .vec 9 1 l 0), (27, .vec 22 1 k 0)] (.ret (.agg [.vec 2005 l.length, .vec 27 k.length]))
  | _ => .bad
theorem stm_Cp : StMC Tryd.prog 29 [9] cm_Cp := by
  intro ds H pre mu o1 out h hp
  unfold cm_Cp at h
  split at h
  · rename_i l k
    cases h
    obtain ⟨h1, h2, h3, h4, h5⟩ := hp
    have := fcm_Copy (l.map dS, k.map dR) (by simpa using h3) (by simpa using h4) h5
    simp only [← h1, ← h2, List.length_map] at this
    exact this
  · cases h
def hdR4 (t : Tab) (l : List Cf) (i : Nat) (R : Rws) : Hd := ⟨[(1, .sl 6 (l.map eCf)), (2, .loc 2 0), (4, .loc 4 0), (5, .loc 5 0), (6, .int .i64 i)],
  [(2, .blk [.sl 1 (t.1.map eS), .sl 1 (t.2.map eR)] false), (4, .blk [.nil, .nil] false), (5, .blk [.vec 2005 t.1.length, .vec 27 t.2.length] false), (2005, .vec 9 1 (t.1.map eS) 0), (27, .vec 22 1 (R.map eR) 0)]⟩
theorem fc_rMark (t : Tab) (l : List Cf) (h1 : t.1.length < 1000000000) (h2 : t.2.length < 1000000000) (h3 : ∀ r ∈ t.2, r.length < 1000000000) (h4 : l.length < 1000000000) (h5 : ∀ c ∈ l, okCf c) :
    FC Tryd.prog 15 [] [.agg [.sl 1 (t.1.map eS), .sl 1 (t.2.map eR)], .sl 6 (l.map eCf)] (.ret (.agg [.sl 1 (t.1.map eS), .sl 1 ((marksF t.1 t.2 l).map eR)])) := by
  refine fcc_of (fn := Tryd.f15) (rt := 25) (r := 4) (i := 4) (C := tab [(30, c_rF), (12, c_Txt)] [(29, [9], cm_Cp)] [4011, 5006, 5007]) mixed (by kernel_rfl) (by kernel_rfl) rfl rfl tfTab (by kernel_rfl) (by intro ys h; cases h) ?_
  have hF := st_rF
  have hX := st_rTxt
  have hC := stm_Cp
  simp only [y25]
  simp +contextual (maxSteps := 5000000) only [go_sem, ↓reduceIte, hC, cm_Cp, dS_eS, dR_eR]
  refine ⟨⟨h1, h2, h3⟩, ?_⟩
  refine M_loopI (fun i : Nat => hdR4 t l i (marksF t.1 t.2 (l.take i))) (fun i => l.length - i) (fun i => i ≤ l.length) 0 ?_ ?_
  · unfold hdR4
    simp +contextual (maxSteps := 5000000) only [go_sem, ↓reduceIte]
    exact ⟨rfl, rfl⟩
  intro i hi
  by_cases hlt : i < l.length
  · have hat := eCf_at' l i hlt
    have hsn := take_snC hlt
    have hok := h5 _ (getD_memX (d := c0) hlt)
    have hml := marks_len t.1 (l.take i) t.2
    have hms := marks_snoc t.1 t.2 (l.take i) (l.getD i c0)
    rw [← hsn] at hms
    generalize l.getD i c0 = c at hat hsn hok hms
    generalize marksF t.1 t.2 (l.take i) = R at hml hms ⊢
    have hRl : R.length = t.2.length := by have := congrArg List.length hml; simpa using this
    obtain ⟨ck, cr, cc, cb, co, ct⟩ := c
    simp only [eCf] at hat
    unfold hdR4
    have hrng := fndS_rng cc t.1 0
    simp only at hms
    simp +contextual (maxSteps := 5000000) only [go_sem, ↓reduceIte, hlt, hat, hF, c_rF, dS_eS, dR_eR]
    generalize fndS cc t.1 0 = z at hrng hms ⊢
    intro _
    refine M_join (fun _ : Unit => ⟨(7, .int .i64 z) :: (8, .int .i64 cr) :: (hdR4 t l i R).1, (hdR4 t l i R).2⟩) (fun _ => True) ?_ ?_
    · unfold hdR4
      simp +contextual (maxSteps := 5000000) only [go_sem, ↓reduceIte, hlt, hat]
      exact ⟨(), trivial⟩
    intro _ _
    unfold hdR4
    simp +contextual (maxSteps := 5000000) only [go_sem, ↓reduceIte]
    refine M_join (fun _ : Unit => ⟨(7, .int .i64 z) :: (8, .int .i64 cr) :: (68, .bool (decide ((ck = 5 ∨ ck = 4) ∧ thF R cr z = true))) :: (hdR4 t l i R).1, (hdR4 t l i R).2⟩) (fun _ => True) ?_ ?_
    · unfold hdR4
      by_cases k : ck = 5 ∨ ck = 4
      · by_cases z0 : 0 ≤ z
        · obtain ⟨zn, rfl⟩ : ∃ n : Nat, z = n := ⟨z.toNat, by omega⟩
          by_cases r0 : 0 ≤ cr
          · obtain ⟨rn, rfl⟩ : ∃ n : Nat, cr = n := ⟨cr.toNat, by omega⟩
            by_cases r1 : rn < t.2.length
            · have hat2 := eR_at R rn (by omega)
              have e : decide ((ck = 5 ∨ ck = 4) ∧ thF R rn zn = true) = decide (zn < (R.getD rn []).length) := by
                unfold thF; simp [k, hRl, r1]
              rw [e]
              by_cases k4 : ck = 4
              · simp +contextual (maxSteps := 5000000) only [go_sem, ↓reduceIte, hlt, hat, hat2, r1, hRl, k4, Int.reduceEq, Int.reduceNe, Int.reduceLT, Int.reduceLE, Int.reduceToNat, Int.cast_ofNat_Int]
                exact fun _ => ⟨(), trivial⟩
              · have k5 : ck = 5 := k.resolve_right k4
                simp +contextual (maxSteps := 5000000) only [go_sem, ↓reduceIte, hlt, hat, hat2, r1, hRl, k5, Int.reduceEq, Int.reduceNe, Int.reduceLT, Int.reduceLE, Int.reduceToNat, Int.cast_ofNat_Int]
                exact fun _ => ⟨(), trivial⟩
            · have e : decide ((ck = 5 ∨ ck = 4) ∧ thF R rn zn = true) = false := decide_eq_false fun h => by
                have := h.2; unfold thF at this; simp only [decide_eq_true_eq] at this; omega
              rw [e]
              by_cases k4 : ck = 4
              · simp +contextual (maxSteps := 5000000) only [go_sem, ↓reduceIte, hlt, hat, r1, hRl, k4, Int.reduceEq, Int.reduceNe, Int.reduceLT, Int.reduceLE, Int.reduceToNat, Int.cast_ofNat_Int]
                exact ⟨(), trivial⟩
              · have k5 : ck = 5 := k.resolve_right k4
                simp +contextual (maxSteps := 5000000) only [go_sem, ↓reduceIte, hlt, hat, r1, hRl, k5, Int.reduceEq, Int.reduceNe, Int.reduceLT, Int.reduceLE, Int.reduceToNat, Int.cast_ofNat_Int]
                exact ⟨(), trivial⟩
          · have e : decide ((ck = 5 ∨ ck = 4) ∧ thF R cr zn = true) = false := decide_eq_false fun h => by
              have := h.2; unfold thF at this; simp only [decide_eq_true_eq] at this; omega
            rw [e]
            by_cases k4 : ck = 4
            · simp +contextual (maxSteps := 5000000) only [go_sem, ↓reduceIte, hlt, hat, r0, hRl, k4, Int.reduceEq, Int.reduceNe, Int.reduceLT, Int.reduceLE, Int.reduceToNat, Int.cast_ofNat_Int]
              exact ⟨(), trivial⟩
            · have k5 : ck = 5 := k.resolve_right k4
              simp +contextual (maxSteps := 5000000) only [go_sem, ↓reduceIte, hlt, hat, r0, hRl, k5, Int.reduceEq, Int.reduceNe, Int.reduceLT, Int.reduceLE, Int.reduceToNat, Int.cast_ofNat_Int]
              exact ⟨(), trivial⟩
        · have e : decide ((ck = 5 ∨ ck = 4) ∧ thF R cr z = true) = false := decide_eq_false fun h => by
            have := h.2; unfold thF at this; simp only [decide_eq_true_eq] at this; omega
          rw [e]
          by_cases k4 : ck = 4
          · simp +contextual (maxSteps := 5000000) only [go_sem, ↓reduceIte, hlt, hat, z0, hRl, k4, Int.reduceEq, Int.reduceNe, Int.reduceLT, Int.reduceLE, Int.reduceToNat, Int.cast_ofNat_Int]
            exact ⟨(), trivial⟩
          · have k5 : ck = 5 := k.resolve_right k4
            simp +contextual (maxSteps := 5000000) only [go_sem, ↓reduceIte, hlt, hat, z0, hRl, k5, Int.reduceEq, Int.reduceNe, Int.reduceLT, Int.reduceLE, Int.reduceToNat, Int.cast_ofNat_Int]
            exact ⟨(), trivial⟩
      · have e : decide ((ck = 5 ∨ ck = 4) ∧ thF R cr z = true) = false := decide_eq_false fun h => k h.1
        have k4 : ¬ ck = 4 := fun h => k (.inr h)
        have k5 : ¬ ck = 5 := fun h => k (.inl h)
        rw [e]
        simp +contextual (maxSteps := 5000000) only [go_sem, ↓reduceIte, hlt, hat, k4, k5, Int.reduceEq, Int.reduceNe, Int.reduceLT, Int.reduceLE, Int.reduceToNat, Int.cast_ofNat_Int]
        exact ⟨(), trivial⟩
    intro _ _
    by_cases cond : (ck = 5 ∨ ck = 4) ∧ thF R cr z = true
    · have hth := cond.2
      have hmk : markR R ⟨ck, cr, cc, cb, co, ct⟩ z = R.set cr.toNat ((R.getD cr.toNat []).set z.toNat (txF ⟨ck, cr, cc, cb, co, ct⟩)) := if_pos cond
      rw [hmk] at hms
      rw [decide_eq_true cond]
      unfold thF at hth
      simp only [decide_eq_true_eq] at hth
      obtain ⟨rn, rfl⟩ : ∃ n : Nat, cr = n := ⟨cr.toNat, by omega⟩
      obtain ⟨zn, rfl⟩ : ∃ n : Nat, z = n := ⟨z.toNat, by omega⟩
      rw [Int.toNat_natCast] at hth hms
      have r1 : rn < t.2.length := by omega
      have z1 : zn < (R.getD rn []).length := by omega
      have hat2 := eR_at R rn (by omega)
      have hrl : (R.getD rn []).length < 1000000000 := by
        have h := congrArg (fun q => q.getD rn 0) hml
        simp only [List.getD_eq_getElem?_getD, List.getElem?_map, List.getElem?_eq_getElem (show rn < R.length by omega), List.getElem?_eq_getElem r1, Option.map_some, Option.getD_some] at h
        rw [List.getD_eq_getElem?_getD, List.getElem?_eq_getElem (show rn < R.length by omega), Option.getD_some, h]
        exact h3 _ (List.getElem_mem _)
      unfold hdR4
      generalize hrr : R.getD rn [] = row at hat2 z1 hrl hms
      have hmin : min zn row.length = zn := Nat.min_eq_left (by omega)
      simp +contextual (maxSteps := 5000000) only [go_sem, ↓reduceIte, hlt, hat, hat2, r1, hRl, hX, c_Txt, Nat.sub_zero, hmin, Int.reduceEq, Int.reduceNe, Int.reduceLT, Int.reduceLE, Int.reduceToNat, Int.cast_ofNat_Int]
      refine ⟨by omega, fun _ => ⟨by omega, fun _ => ⟨hok, by omega, fun _ => M_cutK [77] 13 ⟨by decide, by kernel_rfl⟩ ?_⟩⟩⟩
      simp only [List.take_succ_cons, List.take_zero, List.drop_succ_cons, List.drop_zero]
      simp +contextual (maxSteps := 5000000) only [go_sem, ↓reduceIte, hlt, hat, hat2, r1, hRl, Nat.sub_zero, hmin, Int.reduceEq, Int.reduceNe, Int.reduceLT, Int.reduceLE, Int.reduceToNat, Int.cast_ofNat_Int]
      have hset : ((R.map eR).set rn [.sl 1 (List.take zn (row.map eS) ++ [[.str (txF ⟨ck, rn, cc, cb, co, ct⟩)]] ++ List.take (row.length - ((zn : Int) + 1).toNat) (List.drop ((zn : Int) + 1).toNat (row.map eS)))]) = (R.set rn (row.set zn (txF ⟨ck, rn, cc, cb, co, ct⟩))).map eR := by
        have e1 : ((zn : Int) + 1).toNat = zn + 1 := by omega
        rw [e1, List.map_set, List.take_of_length_le (l := List.drop (zn + 1) (row.map eS)) (by simp)]
        congr 1
        unfold eR
        congr 2
        rw [List.set_eq_take_append_cons_drop, if_pos z1]
        simp [List.map_take, List.map_drop, eS]
      rw [hset]
      rw [Int.toNat_natCast] at hms
      have hl1 : (List.drop ((zn : Int) + 1).toNat (row.map eS)).length = row.length - ((zn : Int) + 1).toNat := by simp
      exact ⟨inR64 (by omega) (by omega), fun _ => ⟨⟨by omega, by omega, by omega⟩, fun _ => ⟨by omega, fun _ => ⟨by omega, fun _ => ⟨inR64 (by omega) (by omega), fun _ => ⟨i + 1, ⟨by simp, by rw [hms]⟩, by omega, by omega⟩⟩⟩⟩⟩⟩
    · have hmk : markR R ⟨ck, cr, cc, cb, co, ct⟩ z = R := if_neg cond
      rw [hmk] at hms
      rw [decide_eq_false cond]
      unfold hdR4
      simp +contextual (maxSteps := 5000000) only [go_sem, ↓reduceIte, hlt, hat]
      exact ⟨inR64 (by omega) (by omega), fun _ => ⟨i + 1, ⟨by simp, by rw [hms]⟩, by omega, by omega⟩⟩
  · have he : i = l.length := by omega
    subst he
    unfold hdR4
    simp +contextual (maxSteps := 5000000) only [go_sem, ↓reduceIte, hlt, List.take_length, finC, finCB, locR]
    have hml := congrArg List.length (marks_len t.1 l t.2)
    exact fun _ => by simpa using hml
end Go.Proofs.YtnpfbjbacakgoaaDoor
