/-
  What the functions compute that the law of this claim reaches. By an AI agent.
-/
import Derived.Test.YtknkjakppikjeaaGreatProg
import Derived.Test.YtknkjakppikjeaaGreatTj
set_option linter.unusedSimpArgs false
set_option linter.unusedVariables false

/- The types that the program uses, read off its table. -/
namespace Go.Proofs.YtknkjakppikjeaaGreat
open Go.Tn
theorem y1 : tyOf Tryz.prog 1 = ⟨.func, [.nilFunc], [], 0, 0, false, 0, 8⟩ := by kernel_rfl
theorem y2 : tyOf Tryz.prog 2 = ⟨(.int .i64), [(.int .i64 0)], [], 0, 0, false, 0, 8⟩ := by kernel_rfl
theorem y3 : tyOf Tryz.prog 3 = ⟨(.int .i64), [(.int .i64 0)], [], 0, 0, false, 0, 8⟩ := by kernel_rfl
theorem y4 : tyOf Tryz.prog 4 = ⟨.bool, [(.bool false)], [], 0, 0, false, 0, 1⟩ := by kernel_rfl
theorem y5 : tyOf Tryz.prog 5 = ⟨(.int .u8), [(.int .u8 0)], [], 0, 0, false, 0, 1⟩ := by kernel_rfl
theorem y6 : tyOf Tryz.prog 6 = ⟨(.int .u8), [(.int .u8 0)], [], 0, 0, false, 0, 1⟩ := by kernel_rfl
theorem y7 : tyOf Tryz.prog 7 = ⟨.struct, [(.int .i64 0), (.int .i64 0), (.bool false), (.int .u8 0)], [(0, 1, false), (1, 1, false), (2, 1, false), (3, 1, false)], 0, 0, true, 0, 24⟩ := by kernel_rfl
theorem y8 : tyOf Tryz.prog 8 = ⟨.struct, [(.int .i64 0), (.int .i64 0), (.bool false), (.int .u8 0)], [(0, 1, false), (1, 1, false), (2, 1, false), (3, 1, false)], 0, 0, true, 0, 24⟩ := by kernel_rfl
theorem y9 : tyOf Tryz.prog 9 = ⟨.str, [(.string ⟨#[]⟩)], [], 0, 0, false, 0, 16⟩ := by kernel_rfl
theorem y10 : tyOf Tryz.prog 10 = ⟨.str, [(.string ⟨#[]⟩)], [], 0, 0, false, 0, 16⟩ := by kernel_rfl
theorem y11 : tyOf Tryz.prog 11 = ⟨.str, [(.string ⟨#[]⟩)], [], 0, 0, false, 0, 16⟩ := by kernel_rfl
theorem y12 : tyOf Tryz.prog 12 = ⟨(.int .u64), [(.int .u64 0)], [], 0, 0, false, 0, 8⟩ := by kernel_rfl
theorem y13 : tyOf Tryz.prog 13 = ⟨.struct, [(.string ⟨#[]⟩), (.int .u64 0)], [(0, 1, false), (1, 1, false)], 0, 0, false, 0, 24⟩ := by kernel_rfl
theorem y14 : tyOf Tryz.prog 14 = ⟨.struct, [(.string ⟨#[]⟩), (.int .u64 0)], [(0, 1, false), (1, 1, false)], 0, 0, false, 0, 24⟩ := by kernel_rfl
theorem y15 : tyOf Tryz.prog 15 = ⟨.ptr, [(.pointer none)], [], 164, 0, false, 0, 8⟩ := by kernel_rfl
theorem y16 : tyOf Tryz.prog 16 = ⟨.ptr, [(.pointer none)], [], 167, 0, false, 0, 8⟩ := by kernel_rfl
theorem y17 : tyOf Tryz.prog 17 = ⟨.ptr, [(.pointer none)], [], 176, 0, false, 0, 8⟩ := by kernel_rfl
theorem y18 : tyOf Tryz.prog 18 = ⟨.struct, [(.pointer none)], [(0, 1, false)], 0, 0, false, 0, 8⟩ := by kernel_rfl
theorem y19 : tyOf Tryz.prog 19 = ⟨.struct, [(.pointer none)], [(0, 1, false)], 0, 0, false, 0, 8⟩ := by kernel_rfl
theorem y20 : tyOf Tryz.prog 20 = ⟨.iface, [.nilIface], [], 0, 0, false, 0, 16⟩ := by kernel_rfl
theorem y21 : tyOf Tryz.prog 21 = ⟨(.int .i32), [(.int .i32 0)], [], 0, 0, false, 0, 4⟩ := by kernel_rfl
theorem y22 : tyOf Tryz.prog 22 = ⟨.slice, [(.slice none 0 0)], [], 9, 1, false, 0, 24⟩ := by kernel_rfl
theorem y23 : tyOf Tryz.prog 23 = ⟨.slice, [(.slice none 0 0)], [], 22, 1, false, 0, 24⟩ := by kernel_rfl
theorem y24 : tyOf Tryz.prog 24 = ⟨.struct, [(.slice none 0 0), (.slice none 0 0)], [(0, 1, false), (1, 1, false)], 0, 0, false, 0, 48⟩ := by kernel_rfl
theorem y25 : tyOf Tryz.prog 25 = ⟨.struct, [(.slice none 0 0), (.slice none 0 0)], [(0, 1, false), (1, 1, false)], 0, 0, false, 0, 48⟩ := by kernel_rfl
theorem y26 : tyOf Tryz.prog 26 = ⟨.slice, [(.slice none 0 0)], [], 45, 2, true, 0, 24⟩ := by kernel_rfl
theorem y27 : tyOf Tryz.prog 27 = ⟨.slice, [(.slice none 0 0)], [], 52, 2, true, 0, 24⟩ := by kernel_rfl
theorem y28 : tyOf Tryz.prog 28 = ⟨.slice, [(.slice none 0 0)], [], 47, 6, true, 0, 24⟩ := by kernel_rfl
theorem y29 : tyOf Tryz.prog 29 = ⟨.slice, [(.slice none 0 0)], [], 71, 3, true, 0, 24⟩ := by kernel_rfl
theorem y30 : tyOf Tryz.prog 30 = ⟨.struct, [(.slice none 0 0), (.slice none 0 0), (.slice none 0 0), (.int .i64 0), (.int .i64 0), (.slice none 0 0), (.slice none 0 0), (.slice none 0 0), (.slice none 0 0), (.slice none 0 0), (.slice none 0 0)], [(0, 1, false), (1, 1, false), (2, 1, false), (3, 1, false), (4, 1, false), (5, 1, false), (6, 1, false), (7, 1, false), (8, 1, false), (9, 1, false), (10, 1, false)], 0, 0, false, 0, 232⟩ := by kernel_rfl
theorem y31 : tyOf Tryz.prog 31 = ⟨.struct, [(.slice none 0 0), (.slice none 0 0), (.slice none 0 0), (.int .i64 0), (.int .i64 0), (.slice none 0 0), (.slice none 0 0), (.slice none 0 0), (.slice none 0 0), (.slice none 0 0), (.slice none 0 0)], [(0, 1, false), (1, 1, false), (2, 1, false), (3, 1, false), (4, 1, false), (5, 1, false), (6, 1, false), (7, 1, false), (8, 1, false), (9, 1, false), (10, 1, false)], 0, 0, false, 0, 232⟩ := by kernel_rfl
theorem y32 : tyOf Tryz.prog 32 = ⟨.func, [.nilFunc], [], 0, 0, false, 0, 8⟩ := by kernel_rfl
theorem y33 : tyOf Tryz.prog 33 = ⟨.func, [.nilFunc], [], 0, 0, false, 0, 8⟩ := by kernel_rfl
theorem y34 : tyOf Tryz.prog 34 = ⟨.func, [.nilFunc], [], 0, 0, false, 0, 8⟩ := by kernel_rfl
theorem y35 : tyOf Tryz.prog 35 = ⟨(.int .i64), [(.int .i64 0)], [], 0, 0, false, 0, 8⟩ := by kernel_rfl
theorem y37 : tyOf Tryz.prog 37 = ⟨.func, [.nilFunc], [], 0, 0, false, 0, 8⟩ := by kernel_rfl
theorem y38 : tyOf Tryz.prog 38 = ⟨.func, [.nilFunc], [], 0, 0, false, 0, 8⟩ := by kernel_rfl
theorem y39 : tyOf Tryz.prog 39 = ⟨.func, [.nilFunc], [], 0, 0, false, 0, 8⟩ := by kernel_rfl
theorem y40 : tyOf Tryz.prog 40 = ⟨.func, [.nilFunc], [], 0, 0, false, 0, 8⟩ := by kernel_rfl
theorem y42 : tyOf Tryz.prog 42 = ⟨.func, [.nilFunc], [], 0, 0, false, 0, 8⟩ := by kernel_rfl
theorem y43 : tyOf Tryz.prog 43 = ⟨.func, [.nilFunc], [], 0, 0, false, 0, 8⟩ := by kernel_rfl
theorem y44 : tyOf Tryz.prog 44 = ⟨.struct, [(.int .i64 0), (.int .i64 0)], [(0, 1, false), (1, 1, false)], 0, 0, true, 0, 16⟩ := by kernel_rfl
theorem y45 : tyOf Tryz.prog 45 = ⟨.struct, [(.int .i64 0), (.int .i64 0)], [(0, 1, false), (1, 1, false)], 0, 0, true, 0, 16⟩ := by kernel_rfl
theorem y46 : tyOf Tryz.prog 46 = ⟨.struct, [(.int .i64 0), (.int .i64 0), (.int .i64 0), (.int .i64 0), (.string ⟨#[]⟩), (.string ⟨#[]⟩)], [(0, 1, false), (1, 1, false), (2, 1, false), (3, 1, false), (4, 1, false), (5, 1, false)], 0, 0, true, 0, 64⟩ := by kernel_rfl
theorem y47 : tyOf Tryz.prog 47 = ⟨.struct, [(.int .i64 0), (.int .i64 0), (.int .i64 0), (.int .i64 0), (.string ⟨#[]⟩), (.string ⟨#[]⟩)], [(0, 1, false), (1, 1, false), (2, 1, false), (3, 1, false), (4, 1, false), (5, 1, false)], 0, 0, true, 0, 64⟩ := by kernel_rfl
theorem y48 : tyOf Tryz.prog 48 = ⟨.func, [.nilFunc], [], 0, 0, false, 0, 8⟩ := by kernel_rfl
theorem y49 : tyOf Tryz.prog 49 = ⟨.func, [.nilFunc], [], 0, 0, false, 0, 8⟩ := by kernel_rfl
theorem y50 : tyOf Tryz.prog 50 = ⟨.func, [.nilFunc], [], 0, 0, false, 0, 8⟩ := by kernel_rfl
theorem y51 : tyOf Tryz.prog 51 = ⟨.struct, [(.int .i64 0), (.slice none 0 0)], [(0, 1, false), (1, 1, false)], 0, 0, false, 0, 32⟩ := by kernel_rfl
theorem y52 : tyOf Tryz.prog 52 = ⟨.struct, [(.int .i64 0), (.slice none 0 0)], [(0, 1, false), (1, 1, false)], 0, 0, false, 0, 32⟩ := by kernel_rfl
theorem y53 : tyOf Tryz.prog 53 = ⟨.func, [.nilFunc], [], 0, 0, false, 0, 8⟩ := by kernel_rfl
theorem y54 : tyOf Tryz.prog 54 = ⟨.map, [(.map none)], [], 9, 0, false, 91, 8⟩ := by kernel_rfl
theorem y55 : tyOf Tryz.prog 55 = ⟨.map, [(.map none)], [], 3, 0, false, 3, 8⟩ := by kernel_rfl
theorem y56 : tyOf Tryz.prog 56 = ⟨.struct, [(.slice none 0 0), (.slice none 0 0), (.slice none 0 0), (.slice none 0 0), (.slice none 0 0), (.int .i64 0), (.int .i64 0), (.slice none 0 0), (.slice none 0 0), (.slice none 0 0), (.slice none 0 0), (.slice none 0 0), (.slice none 0 0), (.map none), (.map none)], [(0, 2, true), (2, 11, true), (13, 1, false), (14, 1, false)], 0, 0, false, 0, 296⟩ := by kernel_rfl
theorem y57 : tyOf Tryz.prog 57 = ⟨.struct, [(.slice none 0 0), (.slice none 0 0), (.slice none 0 0), (.slice none 0 0), (.slice none 0 0), (.int .i64 0), (.int .i64 0), (.slice none 0 0), (.slice none 0 0), (.slice none 0 0), (.slice none 0 0), (.slice none 0 0), (.slice none 0 0), (.map none), (.map none)], [(0, 2, true), (2, 11, true), (13, 1, false), (14, 1, false)], 0, 0, false, 0, 296⟩ := by kernel_rfl
theorem y58 : tyOf Tryz.prog 58 = ⟨.func, [.nilFunc], [], 0, 0, false, 0, 8⟩ := by kernel_rfl
theorem y59 : tyOf Tryz.prog 59 = ⟨.func, [.nilFunc], [], 0, 0, false, 0, 8⟩ := by kernel_rfl
theorem y60 : tyOf Tryz.prog 60 = ⟨.func, [.nilFunc], [], 0, 0, false, 0, 8⟩ := by kernel_rfl
theorem y61 : tyOf Tryz.prog 61 = ⟨.func, [.nilFunc], [], 0, 0, false, 0, 8⟩ := by kernel_rfl
theorem y62 : tyOf Tryz.prog 62 = ⟨.func, [.nilFunc], [], 0, 0, false, 0, 8⟩ := by kernel_rfl
theorem y63 : tyOf Tryz.prog 63 = ⟨.func, [.nilFunc], [], 0, 0, false, 0, 8⟩ := by kernel_rfl
theorem y64 : tyOf Tryz.prog 64 = ⟨.func, [.nilFunc], [], 0, 0, false, 0, 8⟩ := by kernel_rfl
theorem y65 : tyOf Tryz.prog 65 = ⟨.func, [.nilFunc], [], 0, 0, false, 0, 8⟩ := by kernel_rfl
theorem y66 : tyOf Tryz.prog 66 = ⟨.func, [.nilFunc], [], 0, 0, false, 0, 8⟩ := by kernel_rfl
theorem y67 : tyOf Tryz.prog 67 = ⟨.func, [.nilFunc], [], 0, 0, false, 0, 8⟩ := by kernel_rfl
theorem y68 : tyOf Tryz.prog 68 = ⟨.func, [.nilFunc], [], 0, 0, false, 0, 8⟩ := by kernel_rfl
theorem y69 : tyOf Tryz.prog 69 = ⟨.func, [.nilFunc], [], 0, 0, false, 0, 8⟩ := by kernel_rfl
theorem y70 : tyOf Tryz.prog 70 = ⟨.struct, [(.int .i64 0), (.int .i64 0), (.string ⟨#[]⟩)], [(0, 1, false), (1, 1, false), (2, 1, false)], 0, 0, true, 0, 32⟩ := by kernel_rfl
theorem y71 : tyOf Tryz.prog 71 = ⟨.struct, [(.int .i64 0), (.int .i64 0), (.string ⟨#[]⟩)], [(0, 1, false), (1, 1, false), (2, 1, false)], 0, 0, true, 0, 32⟩ := by kernel_rfl
theorem y72 : tyOf Tryz.prog 72 = ⟨.func, [.nilFunc], [], 0, 0, false, 0, 8⟩ := by kernel_rfl
theorem y73 : tyOf Tryz.prog 73 = ⟨.func, [.nilFunc], [], 0, 0, false, 0, 8⟩ := by kernel_rfl
theorem y74 : tyOf Tryz.prog 74 = ⟨.func, [.nilFunc], [], 0, 0, false, 0, 8⟩ := by kernel_rfl
theorem y75 : tyOf Tryz.prog 75 = ⟨.func, [.nilFunc], [], 0, 0, false, 0, 8⟩ := by kernel_rfl
theorem y76 : tyOf Tryz.prog 76 = ⟨.func, [.nilFunc], [], 0, 0, false, 0, 8⟩ := by kernel_rfl
theorem y77 : tyOf Tryz.prog 77 = ⟨.func, [.nilFunc], [], 0, 0, false, 0, 8⟩ := by kernel_rfl
theorem y78 : tyOf Tryz.prog 78 = ⟨.func, [.nilFunc], [], 0, 0, false, 0, 8⟩ := by kernel_rfl
theorem y79 : tyOf Tryz.prog 79 = ⟨.func, [.nilFunc], [], 0, 0, false, 0, 8⟩ := by kernel_rfl
theorem y80 : tyOf Tryz.prog 80 = ⟨.slice, [(.slice none 0 0)], [], 78, 1, false, 0, 24⟩ := by kernel_rfl
theorem y81 : tyOf Tryz.prog 81 = ⟨.slice, [(.slice none 0 0)], [], 3, 1, false, 0, 24⟩ := by kernel_rfl
theorem y82 : tyOf Tryz.prog 82 = ⟨.func, [.nilFunc], [], 0, 0, false, 0, 8⟩ := by kernel_rfl
theorem y83 : tyOf Tryz.prog 83 = ⟨.struct, [(.slice none 0 0), (.slice none 0 0), (.slice none 0 0), (.slice none 0 0), .nilFunc], [(0, 2, true), (2, 1, false), (3, 1, false), (4, 1, false)], 0, 0, false, 0, 104⟩ := by kernel_rfl
theorem y84 : tyOf Tryz.prog 84 = ⟨.struct, [(.slice none 0 0), (.slice none 0 0), (.slice none 0 0), (.slice none 0 0), .nilFunc], [(0, 2, true), (2, 1, false), (3, 1, false), (4, 1, false)], 0, 0, false, 0, 104⟩ := by kernel_rfl
theorem y85 : tyOf Tryz.prog 85 = ⟨.func, [.nilFunc], [], 0, 0, false, 0, 8⟩ := by kernel_rfl
theorem y86 : tyOf Tryz.prog 86 = ⟨.func, [.nilFunc], [], 0, 0, false, 0, 8⟩ := by kernel_rfl
theorem y87 : tyOf Tryz.prog 87 = ⟨.func, [.nilFunc], [], 0, 0, false, 0, 8⟩ := by kernel_rfl
theorem y88 : tyOf Tryz.prog 88 = ⟨.func, [.nilFunc], [], 0, 0, false, 0, 8⟩ := by kernel_rfl
theorem y89 : tyOf Tryz.prog 89 = ⟨.func, [.nilFunc], [], 0, 0, false, 0, 8⟩ := by kernel_rfl
theorem y90 : tyOf Tryz.prog 90 = ⟨.struct, [(.int .i64 0), (.int .i64 0)], [(0, 1, false), (1, 1, false)], 0, 0, true, 0, 16⟩ := by kernel_rfl
theorem y91 : tyOf Tryz.prog 91 = ⟨.struct, [(.int .i64 0), (.int .i64 0)], [(0, 1, false), (1, 1, false)], 0, 0, true, 0, 16⟩ := by kernel_rfl
theorem y93 : tyOf Tryz.prog 93 = ⟨.func, [.nilFunc], [], 0, 0, false, 0, 8⟩ := by kernel_rfl
theorem y94 : tyOf Tryz.prog 94 = ⟨.func, [.nilFunc], [], 0, 0, false, 0, 8⟩ := by kernel_rfl
theorem y95 : tyOf Tryz.prog 95 = ⟨.func, [.nilFunc], [], 0, 0, false, 0, 8⟩ := by kernel_rfl
theorem y96 : tyOf Tryz.prog 96 = ⟨.map, [(.map none)], [], 3, 0, false, 9, 8⟩ := by kernel_rfl
theorem y97 : tyOf Tryz.prog 97 = ⟨.func, [.nilFunc], [], 0, 0, false, 0, 8⟩ := by kernel_rfl
theorem y98 : tyOf Tryz.prog 98 = ⟨.func, [.nilFunc], [], 0, 0, false, 0, 8⟩ := by kernel_rfl
theorem y99 : tyOf Tryz.prog 99 = ⟨.func, [.nilFunc], [], 0, 0, false, 0, 8⟩ := by kernel_rfl
theorem y100 : tyOf Tryz.prog 100 = ⟨.func, [.nilFunc], [], 0, 0, false, 0, 8⟩ := by kernel_rfl
theorem y101 : tyOf Tryz.prog 101 = ⟨.func, [.nilFunc], [], 0, 0, false, 0, 8⟩ := by kernel_rfl
theorem y102 : tyOf Tryz.prog 102 = ⟨.func, [.nilFunc], [], 0, 0, false, 0, 8⟩ := by kernel_rfl
theorem y103 : tyOf Tryz.prog 103 = ⟨.func, [.nilFunc], [], 0, 0, false, 0, 8⟩ := by kernel_rfl
theorem y104 : tyOf Tryz.prog 104 = ⟨.func, [.nilFunc], [], 0, 0, false, 0, 8⟩ := by kernel_rfl
theorem y105 : tyOf Tryz.prog 105 = ⟨.func, [.nilFunc], [], 0, 0, false, 0, 8⟩ := by kernel_rfl
theorem y106 : tyOf Tryz.prog 106 = ⟨.func, [.nilFunc], [], 0, 0, false, 0, 8⟩ := by kernel_rfl
theorem y107 : tyOf Tryz.prog 107 = ⟨.func, [.nilFunc], [], 0, 0, false, 0, 8⟩ := by kernel_rfl
theorem y108 : tyOf Tryz.prog 108 = ⟨.func, [.nilFunc], [], 0, 0, false, 0, 8⟩ := by kernel_rfl
theorem y109 : tyOf Tryz.prog 109 = ⟨.func, [.nilFunc], [], 0, 0, false, 0, 8⟩ := by kernel_rfl
theorem y110 : tyOf Tryz.prog 110 = ⟨.func, [.nilFunc], [], 0, 0, false, 0, 8⟩ := by kernel_rfl
theorem y111 : tyOf Tryz.prog 111 = ⟨.func, [.nilFunc], [], 0, 0, false, 0, 8⟩ := by kernel_rfl
theorem y112 : tyOf Tryz.prog 112 = ⟨.func, [.nilFunc], [], 0, 0, false, 0, 8⟩ := by kernel_rfl
theorem y113 : tyOf Tryz.prog 113 = ⟨.func, [.nilFunc], [], 0, 0, false, 0, 8⟩ := by kernel_rfl
theorem y114 : tyOf Tryz.prog 114 = ⟨.struct, [(.int .i64 0), (.int .i64 0)], [(0, 1, false), (1, 1, false)], 0, 0, true, 0, 16⟩ := by kernel_rfl
theorem y115 : tyOf Tryz.prog 115 = ⟨.func, [.nilFunc], [], 0, 0, false, 0, 8⟩ := by kernel_rfl
theorem y116 : tyOf Tryz.prog 116 = ⟨.func, [.nilFunc], [], 0, 0, false, 0, 8⟩ := by kernel_rfl
theorem y117 : tyOf Tryz.prog 117 = ⟨.func, [.nilFunc], [], 0, 0, false, 0, 8⟩ := by kernel_rfl
theorem y118 : tyOf Tryz.prog 118 = ⟨.func, [.nilFunc], [], 0, 0, false, 0, 8⟩ := by kernel_rfl
theorem y119 : tyOf Tryz.prog 119 = ⟨.func, [.nilFunc], [], 0, 0, false, 0, 8⟩ := by kernel_rfl
theorem y120 : tyOf Tryz.prog 120 = ⟨.func, [.nilFunc], [], 0, 0, false, 0, 8⟩ := by kernel_rfl
theorem y121 : tyOf Tryz.prog 121 = ⟨.func, [.nilFunc], [], 0, 0, false, 0, 8⟩ := by kernel_rfl
theorem y123 : tyOf Tryz.prog 123 = ⟨.func, [.nilFunc], [], 0, 0, false, 0, 8⟩ := by kernel_rfl
theorem y124 : tyOf Tryz.prog 124 = ⟨.slice, [(.slice none 0 0)], [], 35, 1, false, 0, 24⟩ := by kernel_rfl
theorem y125 : tyOf Tryz.prog 125 = ⟨.func, [.nilFunc], [], 0, 0, false, 0, 8⟩ := by kernel_rfl
theorem y126 : tyOf Tryz.prog 126 = ⟨.func, [.nilFunc], [], 0, 0, false, 0, 8⟩ := by kernel_rfl
theorem y127 : tyOf Tryz.prog 127 = ⟨.func, [.nilFunc], [], 0, 0, false, 0, 8⟩ := by kernel_rfl
theorem y128 : tyOf Tryz.prog 128 = ⟨.func, [.nilFunc], [], 0, 0, false, 0, 8⟩ := by kernel_rfl
theorem y129 : tyOf Tryz.prog 129 = ⟨.func, [.nilFunc], [], 0, 0, false, 0, 8⟩ := by kernel_rfl
theorem y130 : tyOf Tryz.prog 130 = ⟨.func, [.nilFunc], [], 0, 0, false, 0, 8⟩ := by kernel_rfl
theorem y131 : tyOf Tryz.prog 131 = ⟨.func, [.nilFunc], [], 0, 0, false, 0, 8⟩ := by kernel_rfl
theorem y132 : tyOf Tryz.prog 132 = ⟨.func, [.nilFunc], [], 0, 0, false, 0, 8⟩ := by kernel_rfl
theorem y133 : tyOf Tryz.prog 133 = ⟨.func, [.nilFunc], [], 0, 0, false, 0, 8⟩ := by kernel_rfl
theorem y134 : tyOf Tryz.prog 134 = ⟨.func, [.nilFunc], [], 0, 0, false, 0, 8⟩ := by kernel_rfl
theorem y135 : tyOf Tryz.prog 135 = ⟨.func, [.nilFunc], [], 0, 0, false, 0, 8⟩ := by kernel_rfl
theorem y136 : tyOf Tryz.prog 136 = ⟨.func, [.nilFunc], [], 0, 0, false, 0, 8⟩ := by kernel_rfl
theorem y137 : tyOf Tryz.prog 137 = ⟨.func, [.nilFunc], [], 0, 0, false, 0, 8⟩ := by kernel_rfl
theorem y138 : tyOf Tryz.prog 138 = ⟨.func, [.nilFunc], [], 0, 0, false, 0, 8⟩ := by kernel_rfl
theorem y139 : tyOf Tryz.prog 139 = ⟨.func, [.nilFunc], [], 0, 0, false, 0, 8⟩ := by kernel_rfl
theorem y140 : tyOf Tryz.prog 140 = ⟨.func, [.nilFunc], [], 0, 0, false, 0, 8⟩ := by kernel_rfl
theorem y141 : tyOf Tryz.prog 141 = ⟨.func, [.nilFunc], [], 0, 0, false, 0, 8⟩ := by kernel_rfl
theorem y142 : tyOf Tryz.prog 142 = ⟨.func, [.nilFunc], [], 0, 0, false, 0, 8⟩ := by kernel_rfl
theorem y143 : tyOf Tryz.prog 143 = ⟨.func, [.nilFunc], [], 0, 0, false, 0, 8⟩ := by kernel_rfl
theorem y144 : tyOf Tryz.prog 144 = ⟨.func, [.nilFunc], [], 0, 0, false, 0, 8⟩ := by kernel_rfl
theorem y145 : tyOf Tryz.prog 145 = ⟨.func, [.nilFunc], [], 0, 0, false, 0, 8⟩ := by kernel_rfl
theorem y146 : tyOf Tryz.prog 146 = ⟨.slice, [(.slice none 0 0)], [], 114, 2, true, 0, 24⟩ := by kernel_rfl
theorem y147 : tyOf Tryz.prog 147 = ⟨.func, [.nilFunc], [], 0, 0, false, 0, 8⟩ := by kernel_rfl
theorem y148 : tyOf Tryz.prog 148 = ⟨.func, [.nilFunc], [], 0, 0, false, 0, 8⟩ := by kernel_rfl
theorem y149 : tyOf Tryz.prog 149 = ⟨.func, [.nilFunc], [], 0, 0, false, 0, 8⟩ := by kernel_rfl
theorem y150 : tyOf Tryz.prog 150 = ⟨.func, [.nilFunc], [], 0, 0, false, 0, 8⟩ := by kernel_rfl
theorem y151 : tyOf Tryz.prog 151 = ⟨.func, [.nilFunc], [], 0, 0, false, 0, 8⟩ := by kernel_rfl
theorem y152 : tyOf Tryz.prog 152 = ⟨.func, [.nilFunc], [], 0, 0, false, 0, 8⟩ := by kernel_rfl
theorem y153 : tyOf Tryz.prog 153 = ⟨.func, [.nilFunc], [], 0, 0, false, 0, 8⟩ := by kernel_rfl
theorem y154 : tyOf Tryz.prog 154 = ⟨.func, [.nilFunc], [], 0, 0, false, 0, 8⟩ := by kernel_rfl
theorem y155 : tyOf Tryz.prog 155 = ⟨.func, [.nilFunc], [], 0, 0, false, 0, 8⟩ := by kernel_rfl
theorem y156 : tyOf Tryz.prog 156 = ⟨.func, [.nilFunc], [], 0, 0, false, 0, 8⟩ := by kernel_rfl
theorem y157 : tyOf Tryz.prog 157 = ⟨.slice, [(.slice none 0 0)], [], 27, 1, false, 0, 24⟩ := by kernel_rfl
theorem y158 : tyOf Tryz.prog 158 = ⟨.func, [.nilFunc], [], 0, 0, false, 0, 8⟩ := by kernel_rfl
theorem y159 : tyOf Tryz.prog 159 = ⟨.slice, [(.slice none 0 0)], [], 29, 1, false, 0, 24⟩ := by kernel_rfl
theorem y160 : tyOf Tryz.prog 160 = ⟨.func, [.nilFunc], [], 0, 0, false, 0, 8⟩ := by kernel_rfl
theorem y161 : tyOf Tryz.prog 161 = ⟨(.int .u64), [(.int .u64 0)], [], 0, 0, false, 0, 8⟩ := by kernel_rfl
theorem y162 : tyOf Tryz.prog 162 = ⟨.func, [.nilFunc], [], 0, 0, false, 0, 8⟩ := by kernel_rfl
theorem y163 : tyOf Tryz.prog 163 = ⟨.struct, [(.pointer none), (.pointer none), (.pointer none), (.string ⟨#[]⟩)], [(0, 1, false), (1, 1, false), (2, 1, false), (3, 1, false)], 0, 0, false, 0, 40⟩ := by kernel_rfl
theorem y164 : tyOf Tryz.prog 164 = ⟨.struct, [(.pointer none), (.pointer none), (.pointer none), (.string ⟨#[]⟩)], [(0, 1, false), (1, 1, false), (2, 1, false), (3, 1, false)], 0, 0, false, 0, 40⟩ := by kernel_rfl
theorem y165 : tyOf Tryz.prog 165 = ⟨.array, [], [], 16, 1, false, 0, 0⟩ := by kernel_rfl
theorem y166 : tyOf Tryz.prog 166 = ⟨.struct, [], [(0, 0, true)], 0, 0, false, 0, 0⟩ := by kernel_rfl
theorem y167 : tyOf Tryz.prog 167 = ⟨.struct, [], [(0, 0, true)], 0, 0, false, 0, 0⟩ := by kernel_rfl
theorem y168 : tyOf Tryz.prog 168 = ⟨(.int .u32), [(.int .u32 0)], [], 0, 0, false, 0, 4⟩ := by kernel_rfl
theorem y169 : tyOf Tryz.prog 169 = ⟨(.int .u8), [(.int .u8 0)], [], 0, 0, false, 0, 1⟩ := by kernel_rfl
theorem y170 : tyOf Tryz.prog 170 = ⟨(.int .u8), [(.int .u8 0)], [], 0, 0, false, 0, 1⟩ := by kernel_rfl
theorem y171 : tyOf Tryz.prog 171 = ⟨.func, [.nilFunc], [], 0, 0, false, 0, 8⟩ := by kernel_rfl
theorem y172 : tyOf Tryz.prog 172 = ⟨.ptr, [(.pointer none)], [], 5, 0, false, 0, 8⟩ := by kernel_rfl
theorem y173 : tyOf Tryz.prog 173 = ⟨(.int .i32), [(.int .i32 0)], [], 0, 0, false, 0, 4⟩ := by kernel_rfl
theorem y174 : tyOf Tryz.prog 174 = ⟨(.int .i32), [(.int .i32 0)], [], 0, 0, false, 0, 4⟩ := by kernel_rfl
theorem y175 : tyOf Tryz.prog 175 = ⟨.struct, [(.int .u64 0), (.int .u64 0), (.int .u32 0), (.int .u8 0), (.int .u8 0), (.int .u8 0), (.int .u8 0), .nilFunc, (.pointer none), (.int .i32 0), (.int .i32 0)], [(0, 1, false), (1, 1, false), (2, 1, false), (3, 1, false), (4, 1, false), (5, 1, false), (6, 1, false), (7, 1, false), (8, 1, false), (9, 1, false), (10, 1, false)], 0, 0, false, 0, 48⟩ := by kernel_rfl
theorem y176 : tyOf Tryz.prog 176 = ⟨.struct, [(.int .u64 0), (.int .u64 0), (.int .u32 0), (.int .u8 0), (.int .u8 0), (.int .u8 0), (.int .u8 0), .nilFunc, (.pointer none), (.int .i32 0), (.int .i32 0)], [(0, 1, false), (1, 1, false), (2, 1, false), (3, 1, false), (4, 1, false), (5, 1, false), (6, 1, false), (7, 1, false), (8, 1, false), (9, 1, false), (10, 1, false)], 0, 0, false, 0, 48⟩ := by kernel_rfl
theorem mixed : Tryz.prog.follows .mixedOrders = true := by kernel_rfl
theorem funcs_size : Tryz.prog.funcs.size = 150 := by kernel_rfl
theorem funcs_some (g : Nat) : (Tryz.prog.funcs[g]?).isSome = decide (g < 150) := by
  rw [← funcs_size]
  by_cases h : g < Tryz.prog.funcs.size
  · rw [Array.getElem?_eq_getElem h]; simp [h]
  · rw [Array.getElem?_eq_none (by omega)]; simp [h]
attribute [go_sem] y1 y2 y3 y4 y5 y6 y7 y8 y9 y10 y11 y12 y13 y14 y15 y16 y17 y18 y19 y20 y21 y22 y23 y24 y25 y26 y27 y28 y29 y30 y31 y32 y33 y34 y35 y37 y38 y39 y40 y42 y43 y44 y45 y46 y47 y48 y49 y50 y51 y52 y53 y54 y55 y56 y57 y58 y59 y60 y61 y62 y63 y64 y65 y66 y67 y68 y69 y70 y71 y72 y73 y74 y75 y76 y77 y78 y79 y80 y81 y82 y83 y84 y85 y86 y87 y88 y89 y90 y91 y93 y94 y95 y96 y97 y98 y99 y100 y101 y102 y103 y104 y105 y106 y107 y108 y109 y110 y111 y112 y113 y114 y115 y116 y117 y118 y119 y120 y121 y123 y124 y125 y126 y127 y128 y129 y130 y131 y132 y133 y134 y135 y136 y137 y138 y139 y140 y141 y142 y143 y144 y145 y146 y147 y148 y149 y150 y151 y152 y153 y154 y155 y156 y157 y158 y159 y160 y161 y162 y163 y164 y165 y166 y167 y168 y169 y170 y171 y172 y173 y174 y175 y176 funcs_some
end Go.Proofs.YtknkjakppikjeaaGreat

set_option linter.unusedSimpArgs false
namespace Go.Proofs.YtknkjakppikjeaaGreat
open Go.Tn
set_option maxHeartbeats 8000000
set_option maxRecDepth 100000
def cellF (t : Tab) (r c : Int) : List UInt8 := if r < 0 ∨ t.2.length ≤ r ∨ c < 0 ∨ (t.2.getD r.toNat []).length ≤ c then [] else (t.2.getD r.toNat []).getD c.toNat []
abbrev dTab (t : Tab) : D := .agg [.sl 1 (t.1.map eS), .sl 1 (t.2.map eR)]
theorem fc_Cell (t : Tab) (r c : Int) : FC Tryz.prog 38 [] [dTab t, .int .i64 r, .int .i64 c] (.ret (.str (cellF t r c))) := by
  refine fc_M (fn := Tryz.f38) (C := (tab [] [])) (rs := [6]) mixed (by kernel_rfl) (by kernel_rfl) rfl rfl (by kernel_rfl) (by intro ys h; cases h) ?_
  unfold cellF
  by_cases h0 : r < 0
  · simp +contextual (maxSteps := 5000000) only [go_sem, ↓reduceIte, h0]
  · by_cases h1 : t.2.length ≤ r
    · simp +contextual (maxSteps := 5000000) only [go_sem, ↓reduceIte, h0, h1]
    · obtain ⟨i, rfl⟩ : ∃ i : Nat, r = i := ⟨r.toNat, by omega⟩
      have hi : i < t.2.length := by omega
      by_cases h2 : c < 0
      · simp +contextual (maxSteps := 5000000) only [go_sem, ↓reduceIte, h0, h1, hi, eR_at, h2]
        all_goals (try simp)
        all_goals (try omega)
      · obtain ⟨k, rfl⟩ : ∃ i : Nat, c = i := ⟨c.toNat, by omega⟩
        by_cases h3 : k < (t.2.getD i []).length
        · simp +contextual (maxSteps := 5000000) only [go_sem, ↓reduceIte, h0, h1, hi, eR_at, eS_at, h2, h3]
          all_goals omega
        · simp +contextual (maxSteps := 5000000) only [go_sem, ↓reduceIte, h0, h1, hi, eR_at, eS_at, h2, h3]
          all_goals omega
end Go.Proofs.YtknkjakppikjeaaGreat

set_option linter.unusedSimpArgs false
namespace Go.Proofs.YtknkjakppikjeaaGreat
open Go.Tn
set_option maxHeartbeats 8000000
set_option maxRecDepth 100000

theorem drop_cons {α : Type} {l : List α} {i : Nat} {d : α} (h : i < l.length) : l.drop i = l.getD i d :: l.drop (i + 1) := by
  rw [List.drop_eq_getElem_cons h, List.getD_eq_getElem?_getD, List.getElem?_eq_getElem h]; rfl
def fewIn : List (List UInt8) → Nat → Option Nat
  | [], n => some n
  | s :: r, n => if 8000 < n + s.length + 1 then none else fewIn r (n + s.length + 1)
def fewOn (x : Option Nat) (k : Nat → Bool) : Bool := match x with | none => false | some m => k m
def fewOut : List (List (List UInt8)) → Nat → Bool
  | [], _ => true
  | r :: l, n => if 60 < r.length then false else fewOn (fewIn r n) (fewOut l)
def few3 (l : List (List (List UInt8))) : Bool := if 60 < l.length then false else fewOut l 0
theorem fc_few3 (l : List (List (List UInt8))) : FC Tryz.prog 18 [] [.sl 1 (l.map eR)] (.ret (.bool (few3 l))) := by
  refine fc_M (fn := Tryz.f18) (C := (tab [] [])) (rs := [2]) mixed (by kernel_rfl) (by kernel_rfl) rfl rfl (by kernel_rfl) (by intro ys h; cases h) ?_
  unfold few3
  by_cases h60 : 60 < l.length
  · rw [if_pos h60]
    have h60 : (60 : Int) < l.length := by omega
    simp +contextual (maxSteps := 5000000) only [go_sem, ↓reduceIte, h60]
  · rw [if_neg h60]
    have h60 : ¬ (60 : Int) < l.length := by omega
    simp +contextual (maxSteps := 5000000) only [go_sem, ↓reduceIte, h60]
    intro hl
    refine M_loopI (fun s : Nat × Nat => ⟨[(0, .sl 1 (l.map eR)), (3, .int .i64 s.2), (4, .int .i64 s.1)], []⟩) (fun s => l.length - s.1) (fun s => s.1 ≤ l.length ∧ s.2 ≤ 8000 ∧ fewOut (l.drop s.1) s.2 = fewOut l 0) (0, 0) ?_ ?_
    · simp +contextual (maxSteps := 5000000) only [go_sem, ↓reduceIte]
      rfl
    · intro ⟨i, n⟩ hi
      obtain ⟨hi, hn, hf⟩ := hi
      simp only at hi hn hf
      by_cases hlt : i < l.length
      · rw [drop_cons (d := []) hlt] at hf
        simp only [fewOut] at hf
        by_cases h6 : 60 < (l.getD i []).length
        · rw [if_pos h6] at hf
          have h6 : (60 : Int) < (l.getD i []).length := by omega
          simp +contextual (maxSteps := 5000000) only [go_sem, ↓reduceIte, hlt, eR_at, h6]
          exact fun _ _ => hf
        · rw [if_neg h6] at hf
          have h6 : ¬ (60 : Int) < (l.getD i []).length := by omega
          simp +contextual (maxSteps := 5000000) only [go_sem, ↓reduceIte, hlt, eR_at, h6]
          intro _ hrl
          refine M_loopI (fun s : Nat × Nat => ⟨[(0, .sl 1 (l.map eR)), (3, .int .i64 s.2), (4, .int .i64 i), (5, .int .i64 s.1)], []⟩) (fun s => (l.getD i []).length - s.1) (fun s => s.1 ≤ (l.getD i []).length ∧ s.2 ≤ 8000 ∧ fewIn ((l.getD i []).drop s.1) s.2 = fewIn (l.getD i []) n) (0, n) ?_ ?_
          · simp +contextual (maxSteps := 5000000) only [go_sem, ↓reduceIte]
            exact ⟨rfl, hn⟩
          · intro ⟨k, m⟩ hk
            obtain ⟨hk, hm, hg⟩ := hk
            simp only at hk hm hg
            by_cases hkl : k < (l.getD i []).length
            · rw [drop_cons (d := []) hkl] at hg
              simp only [fewIn] at hg
              simp +contextual (maxSteps := 5000000) only [go_sem, ↓reduceIte, hlt, eR_at, eS_at, hkl]
              simp only [aa, inR_iff]
              intro _ _
              refine ⟨by omega, by omega, ?_⟩
              split
              · rename_i h8
                rw [if_pos (by omega)] at hg
                rw [← hg] at hf
                exact hf
              · rename_i h8
                rw [if_neg (by omega)] at hg
                exact ⟨by omega, (k + 1, m + ((l.getD i []).getD k []).length + 1), ⟨by simp, by simp⟩, by simp only; omega, by simp only; omega, by simp only; omega, hg⟩
            · rw [List.drop_of_length_le (by omega)] at hg
              simp only [fewIn] at hg
              rw [← hg] at hf
              simp +contextual (maxSteps := 5000000) only [go_sem, ↓reduceIte, hlt, eR_at, hkl]
              simp only [aa, inR_iff]
              exact fun _ => ⟨by omega, (i + 1, m), ⟨rfl, by simp⟩, by simp only; omega, by simp only; omega, hm, hf⟩
      · simp +contextual (maxSteps := 5000000) only [go_sem, ↓reduceIte, hlt]
        intro _
        rw [List.drop_of_length_le (by omega)] at hf
        rw [← hf]; rfl
def slen (r : List (List UInt8)) : Nat := (r.map List.length).sum
def rlen (l : List (List (List UInt8))) : Nat := (l.map slen).sum
theorem slen_cons (s : List UInt8) (r : List (List UInt8)) : slen (s :: r) = s.length + slen r := rfl
theorem rlen_cons (r : List (List UInt8)) (l : List (List (List UInt8))) : rlen (r :: l) = slen r + rlen l := rfl
theorem fc_Total (t : Tab) (h : slen t.1 + rlen t.2 < 2000000000) : FC Tryz.prog 19 [] [dTab t] (.ret (.int .i64 (slen t.1 + rlen t.2 : Nat))) := by
  refine fc_M (fn := Tryz.f19) (C := (tab [] [])) (rs := [2]) mixed (by kernel_rfl) (by kernel_rfl) rfl rfl (by kernel_rfl) (by intro ys h; cases h) ?_
  simp +contextual (maxSteps := 5000000) only [go_sem, ↓reduceIte]
  refine M_loopI (fun s : Nat × Nat => ⟨[(1, .loc 1 0), (3, .int .i64 s.2), (4, .int .i64 s.1)], [(1, .blk [.sl 1 (t.1.map eS), .sl 1 (t.2.map eR)] false)]⟩) (fun s => t.1.length - s.1) (fun s => s.1 ≤ t.1.length ∧ s.2 + slen (t.1.drop s.1) = slen t.1) (0, 0) ?_ ?_
  · simp +contextual (maxSteps := 5000000) only [go_sem, ↓reduceIte]
    rfl
  · intro ⟨i, n⟩ hi
    obtain ⟨hi, hf⟩ := hi
    simp only at hi hf
    by_cases hlt : i < t.1.length
    · rw [drop_cons (d := []) hlt, slen_cons] at hf
      simp +contextual (maxSteps := 5000000) only [go_sem, ↓reduceIte, hlt, eS_at]
      simp only [aa, inR_iff]
      exact fun _ _ => ⟨by omega, by omega, (i + 1, n + (t.1.getD i []).length), ⟨by simp, by simp⟩, by simp only; omega, by simp only; omega, by simp only; omega⟩
    · rw [List.drop_of_length_le (by omega)] at hf
      obtain rfl : n = slen t.1 := by simpa [slen] using hf
      simp +contextual (maxSteps := 5000000) only [go_sem, ↓reduceIte, hlt]
      intro _
      clear hf hlt hi
      refine M_loopI (fun s : Nat × Nat => ⟨[(1, .loc 1 0), (3, .int .i64 s.2), (5, .int .i64 s.1)], [(1, .blk [.sl 1 (t.1.map eS), .sl 1 (t.2.map eR)] false)]⟩) (fun s => t.2.length - s.1) (fun s => s.1 ≤ t.2.length ∧ s.2 + rlen (t.2.drop s.1) = slen t.1 + rlen t.2) (0, slen t.1) ?_ ?_
      · simp +contextual (maxSteps := 5000000) only [go_sem, ↓reduceIte]
        rfl
      · intro ⟨i, n⟩ hi
        obtain ⟨hi, hf⟩ := hi
        simp only at hi hf
        by_cases hlt : i < t.2.length
        · rw [drop_cons (d := []) hlt, rlen_cons] at hf
          simp +contextual (maxSteps := 5000000) only [go_sem, ↓reduceIte, hlt, eR_at]
          intro _
          refine M_loopI (fun s : Nat × Nat => ⟨[(1, .loc 1 0), (3, .int .i64 s.2), (5, .int .i64 i), (6, .int .i64 s.1)], [(1, .blk [.sl 1 (t.1.map eS), .sl 1 (t.2.map eR)] false)]⟩) (fun s => (t.2.getD i []).length - s.1) (fun s => s.1 ≤ (t.2.getD i []).length ∧ s.2 + slen ((t.2.getD i []).drop s.1) = n + slen (t.2.getD i [])) (0, n) ?_ ?_
          · simp +contextual (maxSteps := 5000000) only [go_sem, ↓reduceIte]
            rfl
          · intro ⟨k, m⟩ hk
            obtain ⟨hk, hg⟩ := hk
            simp only at hk hg
            by_cases hkl : k < (t.2.getD i []).length
            · rw [drop_cons (d := []) hkl, slen_cons] at hg
              simp +contextual (maxSteps := 5000000) only [go_sem, ↓reduceIte, hlt, eR_at, eS_at, hkl]
              simp only [aa, inR_iff]
              exact fun _ _ => ⟨by omega, by omega, (k + 1, m + ((t.2.getD i []).getD k []).length), ⟨by simp, by simp⟩, by simp only; omega, by simp only; omega, by simp only; omega⟩
            · rw [List.drop_of_length_le (by omega)] at hg
              have hg : m = n + slen (t.2.getD i []) := by simpa [slen] using hg
              simp +contextual (maxSteps := 5000000) only [go_sem, ↓reduceIte, hlt, eR_at, hkl]
              simp only [aa, inR_iff]
              exact fun _ => ⟨by omega, (i + 1, m), ⟨rfl, by simp⟩, by simp only; omega, by simp only; omega, by simp only; omega⟩
        · rw [List.drop_of_length_le (by omega)] at hf
          have hf : n = slen t.1 + rlen t.2 := by simpa [rlen] using hf
          simp +contextual (maxSteps := 5000000) only [go_sem, ↓reduceIte, hlt]
          exact fun _ => hf
def c_few3 (caps args : List D) : Prop × Out := match caps, args with | [], [.sl 1 rows] => (rows = (rows.map dR).map eR, .ret (.bool (few3 (rows.map dR)))) | _, _ => (False, .ret .any)
theorem st_few3 : StC Tryz.prog 18 c_few3 := by
  intro caps args; unfold c_few3; split
  · rename_i rows
    intro h
    have := fc_few3 (rows.map dR)
    rw [← h] at this
    exact this
  · exact fun h => h.elim
def c_total (caps args : List D) : Prop × Out := match caps, args with | [], [.agg [.sl 1 hd, .sl 1 rows]] => ((hd = (hd.map dS).map eS ∧ rows = (rows.map dR).map eR) ∧ slen (hd.map dS) + rlen (rows.map dR) < 2000000000, .ret (.int .i64 (slen (hd.map dS) + rlen (rows.map dR) : Nat))) | _, _ => (False, .ret .any)
theorem st_total : StC Tryz.prog 19 c_total := by
  intro caps args; unfold c_total; split
  · rename_i hd rows
    rintro ⟨⟨h1, h2⟩, h3⟩
    have := fc_Total (hd.map dS, rows.map dR) h3
    simp only [dTab] at this
    rw [← h1, ← h2] at this
    exact this
  · exact fun h => h.elim
def few4 (t : Tab) : Bool := few3 t.2 && decide (t.1.length ≤ 60) && decide (slen t.1 + rlen t.2 ≤ 8000)
theorem fc_few4 (t : Tab) (h : slen t.1 + rlen t.2 < 2000000000) : FC Tryz.prog 6 [] [dTab t] (.ret (.bool (few4 t))) := by
  refine fc_M (fn := Tryz.f6) (C := (tab [(18, c_few3), (19, c_total)] [])) (rs := [2]) mixed (by kernel_rfl) (by kernel_rfl) rfl rfl (by kernel_rfl) (by intro ys h; cases h) ?_
  unfold few4
  cases hf : few3 t.2
  · simp +contextual (maxSteps := 5000000) only [go_sem, ↓reduceIte, c_few3, st_few3, c_total, st_total, dS_eS, dR_eR, hf, h]
  · by_cases h6 : t.1.length ≤ 60
    · have h6' : (t.1.length : Int) ≤ 60 := by omega
      simp +contextual (maxSteps := 5000000) only [go_sem, ↓reduceIte, c_few3, st_few3, c_total, st_total, dS_eS, dR_eR, hf, h, h6, h6']
      intro _
      congr 1
      apply propext
      omega
    · have h6' : ¬ (t.1.length : Int) ≤ 60 := by omega
      simp +contextual (maxSteps := 5000000) only [go_sem, ↓reduceIte, c_few3, st_few3, c_total, st_total, dS_eS, dR_eR, hf, h, h6, h6']
end Go.Proofs.YtknkjakppikjeaaGreat

set_option linter.unusedSimpArgs false
namespace Go.Proofs.YtknkjakppikjeaaGreat
open Go.Tn
set_option maxHeartbeats 8000000
set_option maxRecDepth 100000
theorem fc_pairin (a b na nb : Int) : FC Tryz.prog 86 [] [.agg [.int .i64 a, .int .i64 b], .int .i64 na, .int .i64 nb] (.ret (.bool (decide (0 ≤ a ∧ a < na ∧ 0 ≤ b ∧ b < nb)))) := by
  refine fc_M (fn := Tryz.f86) (C := (tab [] [])) (rs := [6]) mixed (by kernel_rfl) (by kernel_rfl) rfl rfl (by kernel_rfl) (by intro ys h; cases h) ?_
  simp +contextual (maxSteps := 5000000) only [go_sem, ↓reduceIte]

theorem fc_isNaN (a : Int) : FC Tryz.prog 126 [] [.int .i64 a] (.ret (.bool false)) := by
  refine fc_M (fn := Tryz.f126) (C := (tab [] [])) (rs := [2]) mixed (by kernel_rfl) (by kernel_rfl) rfl rfl (by kernel_rfl) (by intro ys h; cases h) ?_
  simp +contextual (maxSteps := 5000000) only [go_sem, ↓reduceIte]
def c_isNaN (caps args : List D) : Prop × Out := match caps, args with | [], [.int .i64 _] => (True, .ret (.bool false)) | _, _ => (False, .ret .any)
theorem st_isNaN : StC Tryz.prog 126 c_isNaN := by
  intro caps args; unfold c_isNaN; split
  · exact fun _ => fc_isNaN _
  · exact fun h => h.elim
def cmpI (a b : Int) : Int := if a < b then -1 else if b < a then 1 else 0
theorem fc_cmp (a b : Int) : FC Tryz.prog 113 [] [.int .i64 a, .int .i64 b] (.ret (.int .i64 (cmpI a b))) := by
  refine fc_M (fn := Tryz.f113) (C := (tab [(126, c_isNaN)] [])) (rs := [4]) mixed (by kernel_rfl) (by kernel_rfl) rfl rfl (by kernel_rfl) (by intro ys h; cases h) ?_
  simp +contextual (maxSteps := 5000000) only [go_sem, ↓reduceIte, c_isNaN, st_isNaN]
  unfold cmpI
  split <;> simp
theorem getD_mem {α : Type} {l : List α} {i : Nat} {d : α} (h : i < l.length) : l.getD i d ∈ l := by
  rw [List.getD_eq_getElem?_getD, List.getElem?_eq_getElem h]; exact List.getElem_mem h
theorem fc_by2 (a b c d : Int) (h : InR .i64 (b - d)) : FC Tryz.prog 87 [] [.agg [.int .i64 a, .int .i64 b], .agg [.int .i64 c, .int .i64 d]] (.ret (.int .i64 (b - d))) := by
  refine fc_M (fn := Tryz.f87) (C := (tab [] [])) (rs := [4]) mixed (by kernel_rfl) (by kernel_rfl) rfl rfl (by kernel_rfl) (by intro ys h; cases h) ?_
  simp +contextual (maxSteps := 5000000) only [go_sem, ↓reduceIte]
  exact h
theorem fc_second (a b : Int) : FC Tryz.prog 91 [] [.agg [.int .i64 a, .int .i64 b]] (.ret (.int .i64 b)) := by
  refine fc_M (fn := Tryz.f91) (C := (tab [] [])) (rs := [2]) mixed (by kernel_rfl) (by kernel_rfl) rfl rfl (by kernel_rfl) (by intro ys h; cases h) ?_
  simp +contextual (maxSteps := 5000000) only [go_sem, ↓reduceIte]
def c_pin (caps args : List D) : Prop × Out := match caps, args with | [], [.agg [.int .i64 a, .int .i64 b], .int .i64 na, .int .i64 nb] => (True, .ret (.bool (decide (0 ≤ a ∧ a < na ∧ 0 ≤ b ∧ b < nb)))) | _, _ => (False, .ret .any)
theorem st_pin : StC Tryz.prog 86 c_pin := by
  intro caps args; unfold c_pin; split
  · exact fun _ => fc_pairin _ _ _ _
  · exact fun h => h.elim
def c_by2 (caps args : List D) : Prop × Out := match caps, args with | [], [.agg [.int .i64 _, .int .i64 b], .agg [.int .i64 _, .int .i64 d]] => (InR .i64 (b - d), .ret (.int .i64 (b - d))) | _, _ => (False, .ret .any)
theorem st_by2 : StC Tryz.prog 87 c_by2 := by
  intro caps args; unfold c_by2; split
  · exact fun h => fc_by2 _ _ _ _ h
  · exact fun h => h.elim
/-- how often each number came -/
def ctM (l : List Int) : List (Int × Int) := l.foldl (fun m k => mup m k (mlk m k + 1)) []
theorem ctM_take {α : Type} (g : α → Int) {l : List α} {i : Nat} {d : α} (h : i < l.length) : ctM ((l.take (i + 1)).map g) = mup (ctM ((l.take i).map g)) (g (l.getD i d)) (mlk (ctM ((l.take i).map g)) (g (l.getD i d)) + 1) := by
  rw [List.take_add_one, List.getElem?_eq_getElem h, List.map_append, ctM, ctM, List.foldl_append, List.getD_eq_getElem?_getD, List.getElem?_eq_getElem h]; rfl
theorem ct_bd {α : Type} (g : α → Int) (k : Int) (l : List α) : ∀ i, i ≤ l.length → 0 ≤ mlk (ctM ((l.take i).map g)) k ∧ mlk (ctM ((l.take i).map g)) k ≤ i
  | 0, _ => by simp [ctM, mlk]
  | i + 1, h => by
    have d : α := l[i]'(by omega)
    obtain ⟨h1, h2⟩ := ct_bd g k l i (by omega)
    rw [ctM_take g (d := d) (by omega), mlk_mup]
    split
    · rename_i e; rw [← e]; exact ⟨by omega, by omega⟩
    · exact ⟨h1, by omega⟩
def inB (na nb : Int) (p : Int × Int) : Prop := 0 ≤ p.1 ∧ p.1 < na ∧ 0 ≤ p.2 ∧ p.2 < nb
instance (na nb : Int) (p : Int × Int) : Decidable (inB na nb p) := by unfold inB; infer_instance
def dnF : List (Int × Int) → Bool
  | [] => false
  | [_] => false
  | p :: q :: r => decide (q.2 < p.2) || dnF (q :: r)
theorem dnF_iff : ∀ ps : List (Int × Int), dnF ps = true ↔ ∃ j, j + 1 < ps.length ∧ (ps.getD (j + 1) (0, 0)).2 < (ps.getD j (0, 0)).2
  | [] => by simp [dnF]
  | [p] => by simp [dnF]
  | p :: q :: r => by
    have ih := dnF_iff (q :: r)
    simp only [dnF, Bool.or_eq_true, decide_eq_true_eq, ih]
    constructor
    · rintro (h | ⟨j, h1, h2⟩)
      · exact ⟨0, by simp, by simpa using h⟩
      · exact ⟨j + 1, by simpa using h1, by simpa using h2⟩
    · rintro ⟨j, h1, h2⟩
      cases j with
      | zero => exact .inl (by simpa using h2)
      | succ j => exact .inr ⟨j, by simpa using h1, by simpa using h2⟩
def chk (ps : List (Int × Int)) (na nb : Int) : Int :=
  if na < 0 ∨ nb < 0 then 1 else if ∃ p ∈ ps, ¬ inB na nb p then 11
  else if (ctM (ps.map (·.1))).length < ps.length ∨ (ctM (ps.map (·.2))).length < ps.length then 10
  else if dnF ps = true then 12 else 0
theorem fc_Check (ps : List (Int × Int)) (na nb : Int) (hb : na < 1000000000) (hb2 : nb < 1000000000) (hl : ps.length < 1000000000) :
    FC Tryz.prog 46 [] [.sl 2 (ps.map eP), .int .i64 na, .int .i64 nb] (.ret (.int .i64 (chk ps na nb))) := by
  refine fc_M (fn := Tryz.f46) (C := (tab [(86, c_pin), (87, c_by2)] [])) (rs := [6]) mixed (by kernel_rfl) (by kernel_rfl) rfl rfl (by kernel_rfl) (by intro ys h; cases h) ?_
  simp +contextual (maxSteps := 5000000) only [go_sem, ↓reduceIte, c_pin, st_pin]
  unfold chk
  split
  · rename_i h1
    split
    · rename_i h2
      rw [if_pos (.inr h2)]
    · rename_i h2
      rw [if_neg (by omega)]
      refine fun _ => M_loopI (fun i : Nat => ⟨[(0, .sl 2 (ps.map eP)), (1, .int .i64 na), (2, .int .i64 nb), (7, .lmap 19), (8, .lmap 20), (21, .sl 2 (ps.map eP)), (22, .int .i64 ps.length), (23, .int .i64 i)],
        [(19, .mp ((ctM ((ps.take i).map (·.1))).map kI) ((ctM ((ps.take i).map (·.1))).map vI) false), (20, .mp ((ctM ((ps.take i).map (·.2))).map kI) ((ctM ((ps.take i).map (·.2))).map vI) false)]⟩) (fun i => ps.length - i) (fun i => i ≤ ps.length ∧ ∀ p ∈ ps.take i, inB na nb p) 0 ?_ ?_
      · simp +contextual (maxSteps := 5000000) only [go_sem, ↓reduceIte, ctM, List.foldl_nil]
        simp
      · intro i hi
        simp +contextual (maxSteps := 5000000) only [go_sem, ↓reduceIte, eP_at, c_pin, st_pin, c_by2, st_by2]
        obtain ⟨hi, hb⟩ := hi
        split
        · rename_i hlt
          split
          · rename_i hno
            rw [if_pos ⟨_, getD_mem (d := (0, 0)) hlt, hno⟩]
          · rename_i hyes
            have hyes' := Classical.not_not.1 hyes
            obtain ⟨c1, c2⟩ := ct_bd (·.1) (ps.getD i (0, 0)).1 ps i hi
            obtain ⟨c3, c4⟩ := ct_bd (·.2) (ps.getD i (0, 0)).2 ps i hi
            refine ⟨inR64 (by omega) (by omega), fun _ => ⟨inR64 (by omega) (by omega), fun _ => ⟨inR64 (by omega) (by omega), fun _ => ⟨i + 1, ⟨by simp, ?_, ?_⟩, by omega, by omega, fun p hp => ?_⟩⟩⟩⟩
            · rw [ctM_take (·.1) (d := (0, 0)) hlt]; exact ⟨rfl, rfl⟩
            · rw [ctM_take (·.2) (d := (0, 0)) hlt]; exact ⟨rfl, rfl⟩
            · rw [List.take_add_one, List.getElem?_eq_getElem hlt] at hp
              rcases List.mem_append.1 hp with hp | hp
              · exact hb p hp
              · simp only [Option.toList_some, List.mem_singleton] at hp
                subst hp
                rw [List.getD_eq_getElem?_getD, List.getElem?_eq_getElem hlt] at hyes'
                exact hyes'
        · rename_i hge
          have ht : ps.take i = ps := List.take_of_length_le (by omega)
          rw [ht] at hb ⊢
          rw [if_neg (show ¬∃ p, p ∈ ps ∧ ¬inB na nb p from fun ⟨p, hp, hn⟩ => hn (hb p hp))]
          intro _
          split
          · rename_i g1
            split
            · rename_i g2
              rw [if_pos (.inr g2)]
            · rename_i g2
              rw [if_neg (by rintro (h | h) <;> contradiction)]
              refine M_loopI (fun i : Nat => ⟨[(0, .sl 2 (ps.map eP)), (55, .sl 2 (ps.map eP)), (56, .int .i64 ps.length), (57, .int .i64 i)], []⟩) (fun i => ps.length - i) (fun i => i ≤ ps.length ∧ ∀ j, j + 1 < i → ¬ (ps.getD (j + 1) (0, 0)).2 < (ps.getD j (0, 0)).2) 0 ?_ ?_
              · simp +contextual (maxSteps := 5000000) only [go_sem, ↓reduceIte]
                simp
              · intro k hk
                obtain ⟨hk, hn⟩ := hk
                by_cases hlt : k < ps.length
                · have hat := eP_at ps (k - 1) (by omega)
                  have hp1 := hb _ (getD_mem (d := (0, 0)) hlt)
                  have hp2 := hb _ (getD_mem (d := (0, 0)) (show k - 1 < ps.length by omega))
                  unfold inB at hp1 hp2
                  simp +contextual (maxSteps := 5000000) only [go_sem, ↓reduceIte, eI_at, eI_set, List.length_set, tn_add, tn_add1, tn_sub, tn_sub1, sh1, sh1b, half_cast, eP_at, hat, hlt, c_by2, st_by2]
                  split
                  · rename_i hk0
                    refine ⟨inR64 (by omega) (by omega), fun _ => ⟨⟨by omega, by omega⟩, fun _ => ⟨inR64 (by omega) (by omega), ?_⟩⟩⟩
                    split
                    · rename_i hd
                      rw [if_pos ((dnF_iff ps).2 ⟨k - 1, by omega, by rw [show k - 1 + 1 = k by omega]; omega⟩)]
                    · rename_i hd
                      refine ⟨inR64 (by omega) (by omega), fun _ => ⟨k + 1, by simp, by omega, by omega, fun j hj => ?_⟩⟩
                      rcases Nat.lt_succ_iff_lt_or_eq.1 hj with h | h
                      · exact hn j h
                      · rw [h, show j = k - 1 by omega]; omega
                  · rename_i hk0
                    refine ⟨inR64 (by omega) (by omega), fun _ => ⟨k + 1, by simp, by omega, by omega, fun j hj => by omega⟩⟩
                · simp +contextual (maxSteps := 5000000) only [go_sem, ↓reduceIte, eI_at, eI_set, List.length_set, tn_add, tn_add1, tn_sub, tn_sub1, sh1, sh1b, half_cast, hlt]
                  have hd : ¬ dnF ps = true := fun h => by
                    obtain ⟨j, h1, h2⟩ := (dnF_iff ps).1 h
                    exact hn j (by omega) h2
                  rw [if_neg hd]
          · rename_i g1
            rw [if_pos (.inl (Classical.not_not.1 g1))]
  · rename_i h1
    rw [if_pos (by omega)]
def c_Check (caps args : List D) : Prop × Out := match caps, args with | [], [.sl 2 rows, .int .i64 na, .int .i64 nb] => ((rows = (rows.map dP).map eP ∧ rows.length < 1000000000) ∧ na < 1000000000 ∧ nb < 1000000000, .ret (.int .i64 (chk (rows.map dP) na nb))) | _, _ => (False, .ret .any)
theorem st_Check : StC Tryz.prog 46 c_Check := by
  intro caps args; unfold c_Check; split
  · rename_i rows na nb
    rintro ⟨⟨h1, h2⟩, h3, h4⟩
    have := fc_Check (rows.map dP) na nb h3 h4 (by simpa using h2)
    rw [← h1] at this
    exact this
  · exact fun h => h.elim
/- those of so many that are not told of a pair -/
theorem mem_ct (k : Int) (l : List Int) : mlk (ctM l) k = 0 ↔ k ∉ l := by
  have gen : ∀ (l : List Int) (m : List (Int × Int)), (∀ k, 0 ≤ mlk m k) → ((mlk (l.foldl (fun m k => mup m k (mlk m k + 1)) m) k = 0 ↔ mlk m k = 0 ∧ k ∉ l)) := by
    intro l
    induction l with
    | nil => intro m _; simp
    | cons x l ih =>
      intro m hm
      rw [List.foldl_cons, ih _ (fun j => by
        rw [mlk_mup]
        split
        · have := hm x; omega
        · exact hm j), mlk_mup]
      by_cases e : k = x
      · subst e; have := hm k; simp; omega
      · rw [if_neg e]; simp [e]
  have := gen l [] (fun _ => Int.le_refl _)
  refine this.trans ⟨fun h => h.2, fun h => ⟨rfl, h⟩⟩
def rsL (l : List Int) (k : Nat) : List Int := ((List.range k).filter fun i : Nat => decide ((i : Int) ∉ l)).map fun i : Nat => (i : Int)
theorem rsL_succ (l : List Int) (k : Nat) : rsL l (k + 1) = rsL l k ++ if (k : Int) ∉ l then [(k : Int)] else [] := by
  unfold rsL
  rw [List.range_succ, List.filter_append, List.map_append]
  congr 1
  by_cases h : (k : Int) ∈ l <;> simp [h]
theorem rsL_len (l : List Int) (k : Nat) : (rsL l k).length ≤ k := by
  unfold rsL; rw [List.length_map]; exact Nat.le_trans (List.length_filter_le _ _) (by simp)
theorem fc_first (a b : Int) : FC Tryz.prog 90 [] [.agg [.int .i64 a, .int .i64 b]] (.ret (.int .i64 a)) := by
  refine fc_M (fn := Tryz.f90) (C := (tab [] [])) (rs := [2]) mixed (by kernel_rfl) (by kernel_rfl) rfl rfl (by kernel_rfl) (by intro ys h; cases h) ?_
  simp +contextual (maxSteps := 5000000) only [go_sem, ↓reduceIte]
def c_of (q : Int × Int → Int) (caps args : List D) : Prop × Out := match caps, args with | [], [.agg [.int .i64 a, .int .i64 b]] => (True, .ret (.int .i64 (q (a, b)))) | _, _ => (False, .ret .any)
theorem st_first : StC Tryz.prog 90 (c_of (·.1)) := by
  intro caps args; unfold c_of; split
  · exact fun _ => fc_first _ _
  · exact fun h => h.elim
theorem st_second : StC Tryz.prog 91 (c_of (·.2)) := by
  intro caps args; unfold c_of; split
  · exact fun _ => fc_second _ _
  · exact fun h => h.elim
theorem fc_rest (g : Nat) (q : Int × Int → Int) (hg : StC Tryz.prog g (c_of q)) (ps : List (Int × Int)) (n : Int) (hn : n ≤ 1000000000) (hp : ps.length < 1000000000) :
    FC Tryz.prog 89 [] [.sl 2 (ps.map eP), .int .i64 n, .fn g [] []] (.own 3 1 ((rsL (ps.map q) n.toNat).map eI)) := by
  refine fc_M (fn := Tryz.f89) (C := (tab [(g, c_of q)] [])) (rs := [6]) mixed (by kernel_rfl) (by kernel_rfl) rfl rfl (by kernel_rfl) (by intro ys h; cases h) ?_
  simp +contextual (maxSteps := 5000000) only [go_sem, ↓reduceIte, c_of, hg]
  refine fun _ => M_loopI (fun i : Nat => ⟨[(1, .int .i64 n), (2, .fn g [] []), (7, .lmap 12), (13, .sl 2 (ps.map eP)), (14, .int .i64 ps.length), (15, .int .i64 i)], [(12, .mp ((ctM ((ps.take i).map q)).map kI) ((ctM ((ps.take i).map q)).map vI) false)]⟩) (fun i => ps.length - i) (fun i => i ≤ ps.length) 0 ?_ ?_
  · simp +contextual (maxSteps := 5000000) only [go_sem, ↓reduceIte, ctM, List.foldl_nil]
    rfl
  · intro i hi
    simp +contextual (maxSteps := 5000000) only [go_sem, ↓reduceIte, eP_at, c_of, hg]
    split
    · rename_i hlt
      have q12 := ct_bd q (q (ps.getD i (0, 0))) ps i hi
      obtain ⟨q1, q2⟩ : 0 ≤ mlk (ctM (List.map q (List.take i ps))) (q ((ps.getD i (0, 0)).fst, (ps.getD i (0, 0)).snd)) ∧ mlk (ctM (List.map q (List.take i ps))) (q ((ps.getD i (0, 0)).fst, (ps.getD i (0, 0)).snd)) ≤ i := q12
      refine ⟨inR64 (by omega) (by omega), fun _ => ⟨inR64 (by omega) (by omega), fun _ => ⟨i + 1, ⟨by simp, ?_⟩, by omega, by omega⟩⟩⟩
      rw [ctM_take q (d := (0, 0)) hlt]; exact ⟨rfl, rfl⟩
    · have : ps.take i = ps := List.take_of_length_le (by omega)
      rw [this]
      refine M_loopI (fun s : Nat => ⟨[(7, .lmap 12), (10, .vec 38 (rsL (ps.map q) s).length), (27, .int .i64 n.toNat), (28, .int .i64 s)], [(12, .mp ((ctM (ps.map q)).map kI) ((ctM (ps.map q)).map vI) false), (38, .vec 3 1 ((rsL (ps.map q) s).map eI) 0)]⟩) (fun i => n.toNat - i) (fun i => i ≤ n.toNat) 0 ?_ ?_
      · simp +contextual (maxSteps := 5000000) only [go_sem, ↓reduceIte, rsL, List.range_zero, List.filter_nil]
        exact ⟨by omega, rfl⟩
      · intro i hi
        simp +contextual (maxSteps := 5000000) only [go_sem, ↓reduceIte, eI_at, eI_set, List.length_set, tn_add, tn_add1, tn_sub, tn_sub1, sh1, sh1b, half_cast]
        have hl := rsL_len (ps.map q) i
        have hs := rsL_succ (ps.map q) i
        have hmc := mem_ct i (ps.map q)
        split
        · rename_i hlt
          split
          · rename_i h0
            rw [if_pos (hmc.1 h0)] at hs
            refine ⟨by omega, fun _ => ⟨inR64 (by omega) (by omega), fun _ => ⟨i + 1, ⟨⟨by rw [hs]; simp, by simp⟩, by rw [hs]; simp [eI]⟩, by omega, by omega⟩⟩⟩
          · rename_i h0
            rw [if_neg (fun h => h0 (hmc.2 h)), List.append_nil] at hs
            refine ⟨inR64 (by omega) (by omega), fun _ => ⟨i + 1, ⟨⟨by rw [hs], by simp⟩, by rw [hs]⟩, by omega, by omega⟩⟩
        · rename_i hge
          rw [show i = n.toNat by omega]
def qOf (g : Nat) : Int × Int → Int := if g = 90 then (·.1) else (·.2)
def c_rest (caps args : List D) : Prop × Out := match caps, args with | [], [.sl 2 rows, .int .i64 n, .fn g [] []] => (((g = 90 ∨ g = 91) ∧ rows = (rows.map dP).map eP) ∧ n ≤ 1000000000 ∧ rows.length < 1000000000, .own 3 1 ((rsL ((rows.map dP).map (qOf g)) n.toNat).map eI)) | _, _ => (False, .ret .any)
theorem st_rest : StC Tryz.prog 89 c_rest := by
  intro caps args; unfold c_rest; split
  · rename_i rows n g
    rintro ⟨⟨hg, h1⟩, h2, h3⟩
    have hst : StC Tryz.prog g (c_of (qOf g)) := by
      rcases hg with rfl | rfl
      · exact st_first
      · exact st_second
    have := fc_rest g (qOf g) hst (rows.map dP) n h2 (by simpa using h3)
    rw [← h1] at this
    exact this
  · exact fun h => h.elim
theorem fc_RestA (ps : List (Int × Int)) (n : Int) (hn : n ≤ 1000000000) (hp : ps.length < 1000000000) :
    FC Tryz.prog 49 [] [.sl 2 (ps.map eP), .int .i64 n] (.own 3 1 ((rsL (ps.map (·.1)) n.toNat).map eI)) := by
  refine fc_M (fn := Tryz.f49) (C := (tab [(89, c_rest)] [])) (rs := [4]) mixed (by kernel_rfl) (by kernel_rfl) rfl rfl (by kernel_rfl) (by intro ys h; cases h) ?_
  simp +contextual (maxSteps := 5000000) only [go_sem, ↓reduceIte, c_rest, st_rest, dP_eP, qOf]
  exact ⟨hn, hp⟩
def c_RestA (caps args : List D) : Prop × Out := match caps, args with | [], [.sl 2 rows, .int .i64 n] => (rows = (rows.map dP).map eP ∧ n ≤ 1000000000 ∧ rows.length < 1000000000, .own 3 1 ((rsL ((rows.map dP).map (·.1)) n.toNat).map eI)) | _, _ => (False, .ret .any)
theorem st_RestA : StC Tryz.prog 49 c_RestA := by
  intro caps args; unfold c_RestA; split
  · rename_i rows n
    intro h
    obtain ⟨h1, h2, h3⟩ := h
    have := fc_RestA (rows.map dP) n h2 (by simpa using h3)
    rw [← h1] at this
    exact this
  · exact fun h => h.elim
theorem fc_RestB (ps : List (Int × Int)) (n : Int) (hn : n ≤ 1000000000) (hp : ps.length < 1000000000) :
    FC Tryz.prog 50 [] [.sl 2 (ps.map eP), .int .i64 n] (.own 3 1 ((rsL (ps.map (·.2)) n.toNat).map eI)) := by
  refine fc_M (fn := Tryz.f50) (C := (tab [(89, c_rest)] [])) (rs := [4]) mixed (by kernel_rfl) (by kernel_rfl) rfl rfl (by kernel_rfl) (by intro ys h; cases h) ?_
  simp +contextual (maxSteps := 5000000) only [go_sem, ↓reduceIte, c_rest, st_rest, dP_eP, qOf]
  exact ⟨hn, hp⟩
def c_RestB (caps args : List D) : Prop × Out := match caps, args with | [], [.sl 2 rows, .int .i64 n] => (rows = (rows.map dP).map eP ∧ n ≤ 1000000000 ∧ rows.length < 1000000000, .own 3 1 ((rsL ((rows.map dP).map (·.2)) n.toNat).map eI)) | _, _ => (False, .ret .any)
theorem st_RestB : StC Tryz.prog 50 c_RestB := by
  intro caps args; unfold c_RestB; split
  · rename_i rows n
    intro h
    obtain ⟨h1, h2, h3⟩ := h
    have := fc_RestB (rows.map dP) n h2 (by simpa using h3)
    rw [← h1] at this
    exact this
  · exact fun h => h.elim
end Go.Proofs.YtknkjakppikjeaaGreat

set_option linter.unusedSimpArgs false
namespace Go.Proofs.YtknkjakppikjeaaGreat
open Go.Tn
set_option maxHeartbeats 8000000
set_option maxRecDepth 100000
def c_need (caps args : List D) : Prop × Out := match caps, args with | [], [.bool b, .int .i64 n] => (True, if b = true then .ret (.tup []) else .pan (.ifc 35 (.int .i64 n))) | _, _ => (False, .ret .any)
theorem fc_need1 (n : Int) : FC Tryz.prog 94 [] [.bool true, .int .i64 n] (.ret (.tup [])) := by
  refine fc_M (fn := Tryz.f94) (C := (tab [] [])) (rs := []) mixed (by kernel_rfl) (by kernel_rfl) rfl rfl (by kernel_rfl) (by intro ys h; cases h) ?_
  simp +contextual (maxSteps := 5000000) only [go_sem, ↓reduceIte]
theorem fc_need0 (n : Int) : FC Tryz.prog 94 [] [.bool false, .int .i64 n] (.pan (.ifc 35 (.int .i64 n))) := by
  refine fc_M (fn := Tryz.f94) (C := (tab [] [])) (rs := []) mixed (by kernel_rfl) (by kernel_rfl) rfl rfl (by kernel_rfl) (by intro ys h; cases h) ?_
  simp +contextual (maxSteps := 5000000) only [go_sem, ↓reduceIte]
theorem st_need : StC Tryz.prog 94 c_need := by
  intro caps args; unfold c_need; split
  · rename_i b n
    intro _
    cases b
    · exact fc_need0 n
    · exact fc_need1 n
  · exact fun h => h.elim
/- is each name there once? -/
def cntS (l : List (List UInt8)) : List (List UInt8 × Int) := l.foldl (fun m k => gup m k (glk 0 m k + 1)) []
theorem cntS_take {l : List (List UInt8)} {i : Nat} (h : i < l.length) : cntS (l.take (i + 1)) = gup (cntS (l.take i)) (l.getD i []) (glk 0 (cntS (l.take i)) (l.getD i []) + 1) := by
  rw [List.take_add_one, List.getElem?_eq_getElem h, cntS, cntS, List.foldl_append, List.getD_eq_getElem?_getD, List.getElem?_eq_getElem h]; rfl
theorem cntS_bd (k : List UInt8) (l : List (List UInt8)) : ∀ i, i ≤ l.length → 0 ≤ glk 0 (cntS (l.take i)) k ∧ glk 0 (cntS (l.take i)) k ≤ i
  | 0, _ => by simp [cntS, glk]
  | i + 1, h => by
    obtain ⟨h1, h2⟩ := cntS_bd k l i (by omega)
    rw [cntS_take (by omega), glk_gup]
    split
    · rename_i e; rw [← e]; exact ⟨by omega, by omega⟩
    · exact ⟨h1, by omega⟩
def onceF (l : List (List UInt8)) : Bool := decide ((cntS l).length = l.length)
theorem fc_once (l : List (List UInt8)) (hl : l.length < 1000000000) : FC Tryz.prog 95 [] [.sl 1 (l.map eS)] (.ret (.bool (onceF l))) := by
  refine fc_M (fn := Tryz.f95) (C := (tab [] [])) (rs := [2]) mixed (by kernel_rfl) (by kernel_rfl) rfl rfl (by kernel_rfl) (by intro ys h; cases h) ?_
  simp +contextual (maxSteps := 5000000) only [go_sem, ↓reduceIte]
  refine fun _ => M_loopI (fun i : Nat => ⟨[(0, .sl 1 (l.map eS)), (3, .lmap 6), (7, .sl 1 (l.map eS)), (8, .int .i64 l.length), (9, .int .i64 i)], [(6, .mp ((cntS (l.take i)).map kS) ((cntS (l.take i)).map vS) false)]⟩) (fun i => l.length - i) (fun i => i ≤ l.length) 0 ?_ ?_
  · simp +contextual (maxSteps := 5000000) only [go_sem, ↓reduceIte, cntS, List.foldl_nil]
    rfl
  · intro i hi
    by_cases hlt : i < l.length
    · obtain ⟨h1, h2⟩ := cntS_bd (l.getD i []) l i hi
      simp +contextual (maxSteps := 5000000) only [go_sem, ↓reduceIte, eS_at, hlt]
      refine ⟨inR64 (by omega) (by omega), fun _ => ⟨inR64 (by omega) (by omega), fun _ => ⟨i + 1, ⟨by simp, ?_⟩, by omega, by omega⟩⟩⟩
      rw [cntS_take hlt]; exact ⟨rfl, rfl⟩
    · have : l.take i = l := List.take_of_length_le (by omega)
      rw [this]
      simp +contextual (maxSteps := 5000000) only [go_sem, ↓reduceIte, hlt]
      exact fun _ => rfl
def c_once (caps args : List D) : Prop × Out := match caps, args with | [], [.sl 1 rows] => (rows = (rows.map dS).map eS ∧ rows.length < 1000000000, .ret (.bool (onceF (rows.map dS)))) | _, _ => (False, .ret .any)
theorem st_once : StC Tryz.prog 95 c_once := by
  intro caps args; unfold c_once; split
  · rename_i rows
    rintro ⟨h1, h2⟩
    have := fc_once (rows.map dS) (by simpa using h2)
    rw [← h1] at this
    exact this
  · exact fun h => h.elim
/- cmp.Or, order -/
structure St6 where
  i : Int
  j : Int
  p : Int
  q : Int
  o : List UInt8
  n : List UInt8
deriving DecidableEq, Inhabited
def eD6 (s : St6) : List D := [.int .i64 s.i, .int .i64 s.j, .int .i64 s.p, .int .i64 s.q, .str s.o, .str s.n]
def orF : List Int → Int
  | [] => 0
  | x :: r => if x = 0 then orF r else x
theorem orF_drop {l : List Int} {i : Nat} (h : i < l.length) : orF (l.drop i) = if l.getD i 0 = 0 then orF (l.drop (i + 1)) else l.getD i 0 := by
  rw [List.drop_eq_getElem_cons h, List.getD_eq_getElem?_getD, List.getElem?_eq_getElem h]; rfl
theorem fc_or (l : List Int) (hl : l.length < 1000000000) : FC Tryz.prog 112 [] [.sl 1 (l.map eI)] (.ret (.int .i64 (orF l))) := by
  refine fc_M (fn := Tryz.f112) (C := (tab [] [])) (rs := [2]) mixed (by kernel_rfl) (by kernel_rfl) rfl rfl (by kernel_rfl) (by intro ys h; cases h) ?_
  simp +contextual (maxSteps := 5000000) only [go_sem, ↓reduceIte]
  refine fun _ => M_loopI (fun i : Nat => ⟨[(3, .int .i64 0), (6, .sl 1 (l.map eI)), (7, .int .i64 l.length), (8, .int .i64 i)], []⟩) (fun i => l.length - i) (fun i => i ≤ l.length ∧ orF (l.drop i) = orF l) 0 ?_ ?_
  · simp +contextual (maxSteps := 5000000) only [go_sem, ↓reduceIte]
    simp
  · intro i hi
    obtain ⟨hi, ho⟩ := hi
    by_cases hlt : i < l.length
    · rw [orF_drop hlt] at ho
      by_cases h0 : l.getD i 0 = 0
      · rw [if_pos h0] at ho
        simp +contextual (maxSteps := 5000000) only [go_sem, ↓reduceIte, eI_at, hlt, h0]
        exact ⟨inR64 (by omega) (by omega), fun _ => ⟨i + 1, by simp, by omega, by omega, ho⟩⟩
      · rw [if_neg h0] at ho
        simp +contextual (maxSteps := 5000000) only [go_sem, ↓reduceIte, eI_at, hlt, h0]
        exact ho
    · rw [List.drop_of_length_le (by omega)] at ho
      simp +contextual (maxSteps := 5000000) only [go_sem, ↓reduceIte, hlt]
      exact ho
def c_or (caps args : List D) : Prop × Out := match caps, args with | [], [.sl 1 [[.int .i64 a], [.int .i64 b]]] => (True, .ret (.int .i64 (orF [a, b]))) | _, _ => (False, .ret .any)
theorem st_or : StC Tryz.prog 112 c_or := by
  intro caps args; unfold c_or; split
  · rename_i a b
    exact fun _ => fc_or [a, b] (by simp)
  · exact fun h => h.elim
def c_cmp (caps args : List D) : Prop × Out := match caps, args with | [], [.int .i64 a, .int .i64 b] => (True, .ret (.int .i64 (cmpI a b))) | _, _ => (False, .ret .any)
theorem st_cmp : StC Tryz.prog 113 c_cmp := by
  intro caps args; unfold c_cmp; split
  · exact fun _ => fc_cmp _ _
  · exact fun h => h.elim
def ordF (a b : St6) : Int := orF [cmpI a.j b.j, cmpI a.q b.q]
theorem fc_order (a b : St6) : FC Tryz.prog 77 [] [.agg (eD6 a), .agg (eD6 b)] (.ret (.int .i64 (ordF a b))) := by
  unfold eD6
  refine fc_M (fn := Tryz.f77) (C := (tab [(113, c_cmp), (112, c_or)] [])) (rs := [4]) mixed (by kernel_rfl) (by kernel_rfl) rfl rfl (by kernel_rfl) (by intro ys h; cases h) ?_
  simp +contextual (maxSteps := 5000000) only [go_sem, ↓reduceIte, c_cmp, st_cmp, c_or, st_or, ordF]
end Go.Proofs.YtknkjakppikjeaaGreat

set_option linter.unusedSimpArgs false
namespace Go.Proofs.YtknkjakppikjeaaGreat
open Go.Tn
set_option maxHeartbeats 8000000
set_option maxRecDepth 100000
def fidx {α : Type} (q : α → Bool) : List α → Nat → Int
  | [], _ => -1
  | x :: r, k => if q x = true then (k : Int) else fidx q r (k + 1)
theorem fidx_at {α : Type} {q : α → Bool} {d : α} : ∀ {l : List α} {k i : Nat}, i < l.length → q (l.getD i d) = true → (∀ j, j < i → q (l.getD j d) = false) → fidx q l k = (k + i : Nat)
  | [], _, _, h, _, _ => by simp at h
  | x :: l, k, 0, _, h, _ => by simp [fidx] at h ⊢; simp [h]
  | x :: l, k, i + 1, h, h1, h2 => by
    have hy : q x = false := by simpa using h2 0 (by omega)
    simp only [fidx, hy, Bool.false_eq_true, if_false]
    rw [fidx_at (i := i) (by simpa using h) (by simpa using h1) (fun j hj => by simpa using h2 (j + 1) (by omega))]
    omega
theorem fidx_no {α : Type} {q : α → Bool} {d : α} : ∀ {l : List α} {k : Nat}, (∀ j, j < l.length → q (l.getD j d) = false) → fidx q l k = -1
  | [], _, _ => rfl
  | x :: l, k, h => by
    have hy : q x = false := by simpa using h 0 (by simp)
    simp only [fidx, hy, Bool.false_eq_true, if_false]
    exact fidx_no fun j hj => by simpa using h (j + 1) (by simpa using hj)
theorem fidx_nn {α : Type} {q : α → Bool} : ∀ {l : List α} {k : Nat}, (decide (0 ≤ fidx q l k)) = l.any q
  | [], _ => rfl
  | x :: l, k => by
    have e : fidx q (x :: l) k = if q x = true then (k : Int) else fidx q l (k + 1) := rfl
    by_cases hq : q x = true
    · rw [if_pos hq] at e
      rw [List.any_cons, hq, Bool.true_or]; exact decide_eq_true (by rw [e]; omega)
    · rw [if_neg hq] at e
      have hq' : q x = false := by simpa using hq
      rw [e, List.any_cons, hq', Bool.false_or]; exact fidx_nn
theorem fc_IndexI (l : List Int) (x : Int) (hl : l.length < 1000000000) : FC Tryz.prog 127 [] [.sl 1 (l.map eI), .int .i64 x] (.ret (.int .i64 (fidx (fun y => decide (x = y)) l 0))) := by
  refine fc_M (fn := Tryz.f127) (C := (tab [] [])) (rs := [4]) mixed (by kernel_rfl) (by kernel_rfl) rfl rfl (by kernel_rfl) (by intro ys h; cases h) ?_
  simp +contextual (maxSteps := 5000000) only [go_sem, ↓reduceIte]
  refine fun _ => M_loopI (fun i : Nat => ⟨[(0, .sl 1 (l.map eI)), (1, .int .i64 x), (6, .sl 1 (l.map eI)), (7, .int .i64 l.length), (8, .int .i64 i)], []⟩) (fun i => l.length - i) (fun i => i ≤ l.length ∧ ∀ j, j < i → decide (x = l.getD j 0) = false) 0 ?_ ?_
  · simp +contextual (maxSteps := 5000000) only [go_sem, ↓reduceIte]
    rfl
  · intro i hi
    obtain ⟨hi, hn⟩ := hi
    by_cases hlt : i < l.length
    · by_cases hq : x = l.getD i 0
      · simp +contextual (maxSteps := 5000000) only [go_sem, ↓reduceIte, hlt, eI_at, hq]
        rw [← hq, fidx_at (d := 0) hlt (by simpa using hq) hn]; simp
      · simp +contextual (maxSteps := 5000000) only [go_sem, ↓reduceIte, hlt, eI_at, hq]
        refine ⟨inR64 (by omega) (by omega), fun _ => ⟨i + 1, by simp, by omega, by omega, fun j hj => ?_⟩⟩
        rcases lt_cases hj with h | rfl
        · simpa using hn j h
        · simpa using hq
    · simp +contextual (maxSteps := 5000000) only [go_sem, ↓reduceIte, hlt]
      rw [fidx_no (d := 0) (fun j hj => hn j (by omega))]
def c_ixI (caps args : List D) : Prop × Out := match caps, args with | [], [.sl 1 rows, .int .i64 x] => (rows = (rows.map dI).map eI ∧ rows.length < 1000000000, .ret (.int .i64 (fidx (fun y => decide (x = y)) (rows.map dI) 0))) | _, _ => (False, .ret .any)
theorem st_ixI : StC Tryz.prog 127 c_ixI := by
  intro caps args; unfold c_ixI; split
  · rename_i rows x
    rintro ⟨h1, h2⟩
    have := fc_IndexI (rows.map dI) x (by simpa using h2)
    rw [← h1] at this
    exact this
  · exact fun h => h.elim
theorem any_eq {α : Type} [DecidableEq α] (x : α) (l : List α) : (l.any fun y => decide (x = y)) = decide (x ∈ l) := by
  induction l with
  | nil => rfl
  | cons y l ih => rw [List.any_cons, ih]; by_cases h : x = y <;> simp [h]
theorem fc_ContI (l : List Int) (x : Int) (hl : l.length < 1000000000) : FC Tryz.prog 116 [] [.sl 1 (l.map eI), .int .i64 x] (.ret (.bool (decide (x ∈ l)))) := by
  refine fc_M (fn := Tryz.f116) (C := (tab [(127, c_ixI)] [])) (rs := [4]) mixed (by kernel_rfl) (by kernel_rfl) rfl rfl (by kernel_rfl) (by intro ys h; cases h) ?_
  simp +contextual (maxSteps := 5000000) only [go_sem, ↓reduceIte, c_ixI, st_ixI, dI_eI]
  exact ⟨hl, by rw [← any_eq, ← fidx_nn (k := 0)]⟩
def c_contI (caps args : List D) : Prop × Out := match caps, args with | [], [.sl 1 rows, .int .i64 x] => (rows = (rows.map dI).map eI ∧ rows.length < 1000000000, .ret (.bool (decide (x ∈ rows.map dI)))) | _, _ => (False, .ret .any)
theorem st_contI : StC Tryz.prog 116 c_contI := by
  intro caps args; unfold c_contI; split
  · rename_i rows x
    rintro ⟨h1, h2⟩
    have := fc_ContI (rows.map dI) x (by simpa using h2)
    rw [← h1] at this
    exact this
  · exact fun h => h.elim
theorem fc_IndexP (l : List (Int × Int)) (x : Int × Int) (hl : l.length < 1000000000) : FC Tryz.prog 119 [] [.sl 2 (l.map eP), .agg [.int .i64 x.1, .int .i64 x.2]] (.ret (.int .i64 (fidx (fun y => decide (x = y)) l 0))) := by
  refine fc_M (fn := Tryz.f119) (C := (tab [] [])) (rs := [4]) mixed (by kernel_rfl) (by kernel_rfl) rfl rfl (by kernel_rfl) (by intro ys h; cases h) ?_
  simp +contextual (maxSteps := 5000000) only [go_sem, ↓reduceIte]
  refine fun _ => M_loopI (fun i : Nat => ⟨[(0, .sl 2 (l.map eP)), (3, .loc 3 0), (6, .sl 2 (l.map eP)), (7, .int .i64 l.length), (8, .int .i64 i)], [(3, .blk [.int .i64 x.1, .int .i64 x.2] false)]⟩) (fun i => l.length - i) (fun i => i ≤ l.length ∧ ∀ j, j < i → decide (x = l.getD j (0, 0)) = false) 0 ?_ ?_
  · simp +contextual (maxSteps := 5000000) only [go_sem, ↓reduceIte]
    rfl
  · intro i hi
    obtain ⟨hi, hn⟩ := hi
    by_cases hlt : i < l.length
    · by_cases hq : x = l.getD i (0, 0)
      · have h1 : x.1 = (l.getD i (0, 0)).1 := by rw [← hq]
        have h2 : x.2 = (l.getD i (0, 0)).2 := by rw [← hq]
        simp +contextual (maxSteps := 5000000) only [go_sem, ↓reduceIte, hlt, eP_at, h1, h2]
        rw [fidx_at (d := (0, 0)) hlt (by simpa using hq) hn]; simp
      · have h1 : ¬ (x.1 = (l.getD i (0, 0)).1 ∧ x.2 = (l.getD i (0, 0)).2) := fun h => hq (Prod.ext h.1 h.2)
        simp +contextual (maxSteps := 5000000) only [go_sem, ↓reduceIte, hlt, eP_at, h1]
        refine ⟨inR64 (by omega) (by omega), fun _ => ⟨i + 1, by simp, by omega, by omega, fun j hj => ?_⟩⟩
        rcases lt_cases hj with h | rfl
        · simpa using hn j h
        · exact hq
    · simp +contextual (maxSteps := 5000000) only [go_sem, ↓reduceIte, hlt]
      rw [fidx_no (d := (0, 0)) (fun j hj => hn j (by omega))]
def c_ixP (caps args : List D) : Prop × Out := match caps, args with | [], [.sl 2 rows, .agg [.int .i64 x, .int .i64 y]] => (rows = (rows.map dP).map eP ∧ rows.length < 1000000000, .ret (.int .i64 (fidx (fun z => decide ((x, y) = z)) (rows.map dP) 0))) | _, _ => (False, .ret .any)
theorem st_ixP : StC Tryz.prog 119 c_ixP := by
  intro caps args; unfold c_ixP; split
  · rename_i rows x y
    rintro ⟨h1, h2⟩
    have := fc_IndexP (rows.map dP) (x, y) (by simpa using h2)
    rw [← h1] at this
    exact this
  · exact fun h => h.elim
theorem fc_ContP (l : List (Int × Int)) (x : Int × Int) (hl : l.length < 1000000000) : FC Tryz.prog 104 [] [.sl 2 (l.map eP), .agg [.int .i64 x.1, .int .i64 x.2]] (.ret (.bool (decide (x ∈ l)))) := by
  refine fc_M (fn := Tryz.f104) (C := (tab [(119, c_ixP)] [])) (rs := [4]) mixed (by kernel_rfl) (by kernel_rfl) rfl rfl (by kernel_rfl) (by intro ys h; cases h) ?_
  simp +contextual (maxSteps := 5000000) only [go_sem, ↓reduceIte, c_ixP, st_ixP, dP_eP]
  refine ⟨hl, ?_⟩
  rw [fidx_nn, Bool.eq_iff_iff]
  simp [List.any_eq_true]
def c_contP (caps args : List D) : Prop × Out := match caps, args with | [], [.sl 2 rows, .agg [.int .i64 x, .int .i64 y]] => (rows = (rows.map dP).map eP ∧ rows.length < 1000000000, .ret (.bool (decide ((x, y) ∈ rows.map dP)))) | _, _ => (False, .ret .any)
theorem st_contP : StC Tryz.prog 104 c_contP := by
  intro caps args; unfold c_contP; split
  · rename_i rows x y
    rintro ⟨h1, h2⟩
    have := fc_ContP (rows.map dP) (x, y) (by simpa using h2)
    rw [← h1] at this
    exact this
  · exact fun h => h.elim
/- those of so many that are none of some -/
def wiF (l : List Int) (n : Nat) : List Int := rsL l n
theorem fc_within (l : List Int) (n : Int) (hl : l.length < 1000000000) (hn : n ≤ 1000000000) : FC Tryz.prog 103 [] [.sl 1 (l.map eI), .int .i64 n] (.own 3 1 ((wiF l n.toNat).map eI)) := by
  unfold wiF
  refine fc_M (fn := Tryz.f103) (C := (tab [(116, c_contI)] [])) (rs := [4]) mixed (by kernel_rfl) (by kernel_rfl) rfl rfl (by kernel_rfl) (by intro ys h; cases h) ?_
  simp +contextual (maxSteps := 5000000) only [go_sem, ↓reduceIte]
  refine M_loopI (fun s : Nat => ⟨[(0, .sl 1 (l.map eI)), (5, .vec 18 (rsL l s).length), (7, .int .i64 n), (8, .int .i64 s)], [(18, .vec 3 1 ((rsL l s).map eI) 0)]⟩) (fun i => n.toNat - i) (fun i => i ≤ n.toNat) 0 ?_ ?_
  · simp +contextual (maxSteps := 5000000) only [go_sem, ↓reduceIte, rsL, List.range_zero, List.filter_nil]
    rfl
  · intro i hi
    have hlen := rsL_len l i
    have hs := rsL_succ l i
    by_cases hlt : (i : Int) < n
    · by_cases h0 : (i : Int) ∈ l
      · rw [if_neg (by simpa using h0), List.append_nil] at hs
        simp +contextual (maxSteps := 5000000) only [go_sem, ↓reduceIte, hlt, h0, c_contI, st_contI, dI_eI]
        refine ⟨hl, inR64 (by omega) (by omega), fun _ => ⟨i + 1, ⟨⟨by rw [hs], by simp⟩, by rw [hs]⟩, by omega, by omega⟩⟩
      · rw [if_pos h0] at hs
        simp +contextual (maxSteps := 5000000) only [go_sem, ↓reduceIte, hlt, h0, c_contI, st_contI, dI_eI]
        refine ⟨hl, by omega, fun _ => ⟨inR64 (by omega) (by omega), fun _ => ⟨i + 1, ⟨⟨by rw [hs]; simp, by simp⟩, by rw [hs]; simp [eI]⟩, by omega, by omega⟩⟩⟩
    · simp +contextual (maxSteps := 5000000) only [go_sem, ↓reduceIte, hlt]
      rw [show i = n.toNat by omega]
def c_within (caps args : List D) : Prop × Out := match caps, args with | [], [.sl 1 rows, .int .i64 n] => (rows = (rows.map dI).map eI ∧ rows.length < 1000000000 ∧ n ≤ 1000000000, .own 3 1 ((wiF (rows.map dI) n.toNat).map eI)) | _, _ => (False, .ret .any)
theorem st_within : StC Tryz.prog 103 c_within := by
  intro caps args; unfold c_within; split
  · rename_i rows n
    rintro ⟨h1, h2, h3⟩
    have := fc_within (rows.map dI) n (by simpa using h2) h3
    rw [← h1] at this
    exact this
  · exact fun h => h.elim
end Go.Proofs.YtknkjakppikjeaaGreat

set_option linter.unusedSimpArgs false
namespace Go.Proofs.YtknkjakppikjeaaGreat
open Go.Tn
set_option maxHeartbeats 8000000
set_option maxRecDepth 100000
abbrev Ln := Int × List (List UInt8)
abbrev Sp := Int × Int × List UInt8
def eL (x : Ln) : List D := [.int .i64 x.1, .sl 1 (x.2.map eS)]
def eSp (x : Sp) : List D := [.int .i64 x.1, .int .i64 x.2.1, .str x.2.2]
theorem eL_at (l : List Ln) (i : Nat) (h : i < l.length) : (l.map eL).getD i [] = [.int .i64 (l.getD i (0, [])).1, .sl 1 ((l.getD i (0, [])).2.map eS)] := at_of eL (0, []) l i h
theorem eSp_at (l : List Sp) (i : Nat) (h : i < l.length) : (l.map eSp).getD i [] = [.int .i64 (l.getD i (0, 0, [])).1, .int .i64 (l.getD i (0, 0, [])).2.1, .str (l.getD i (0, 0, [])).2.2] := at_of eSp (0, 0, []) l i h
def eYs (x : Int × Int) : List D := [.agg [.int .i64 x.1, .int .i64 x.2, .str []]]
theorem yl_gen {α : Type} {e : α → List D} {L : List α} {i : Nat} {d : α} (h : i < L.length) : (∃ r, L.map e = (L.take i).map e ++ e (L.getD i d) :: r) ∧ (L.take i).map e ++ [e (L.getD i d)] = (L.take (i + 1)).map e := by
  rw [List.getD_eq_getElem?_getD, List.getElem?_eq_getElem h, Option.getD_some]
  constructor
  · refine ⟨(L.drop (i + 1)).map e, ?_⟩
    rw [← List.map_cons, ← List.map_append, List.getElem_cons_drop, List.take_append_drop]
  · rw [List.take_add_one, List.getElem?_eq_getElem h, List.map_append]; rfl
/- slices.Values -/
def c_Values (caps args : List D) : Prop × Out := match caps, args with | [], [.sl 1 rows] => (True, .ret (.fn 117 [] [.box [.sl 1 rows]])) | _, _ => (False, .ret .any)
theorem st_Values : StC Tryz.prog 99 c_Values := by
  intro caps args; unfold c_Values; split
  · rename_i rows
    intro _
    refine fc_M (fn := Tryz.f99) (C := (tab [] [])) (rs := [2]) mixed (by kernel_rfl) (by kernel_rfl) rfl rfl (by kernel_rfl) (by intro ys h; cases h) ?_
    simp +contextual (maxSteps := 5000000) only [go_sem, ↓reduceIte]
  · exact fun h => h.elim
theorem fc_Values1 (l : List Int) (hl : l.length < 1000000000) : FC Tryz.prog 117 [.box [.sl 1 (l.map eI)]] [] (.seq (l.map eI)) := by
  refine fcy_M (fn := Tryz.f117) (C := (tab [] [])) mixed (by kernel_rfl) (by kernel_rfl) rfl rfl (by kernel_rfl) (by kernel_rfl) ?_
  simp +contextual (maxSteps := 5000000) only [go_sem, ↓reduceIte]
  refine fun _ => M_loopI (fun i : Nat => ⟨[(0, .yld 999), (5, .sl 1 (l.map eI)), (6, .int .i64 l.length), (7, .int .i64 i)], [(999, .yl (l.map eI) ((l.take i).map eI) false)]⟩) (fun i => l.length - i) (fun i => i ≤ l.length) 0 ?_ ?_
  · simp +contextual (maxSteps := 5000000) only [go_sem, ↓reduceIte]
    rfl
  · intro i hi
    by_cases hlt : i < l.length
    · obtain ⟨q1, q2⟩ := yl_gen (e := eI) (d := 0) hlt
      simp +contextual (maxSteps := 5000000) only [go_sem, ↓reduceIte, eI_at, hlt]
      exact ⟨q1, fun b hb => ⟨inR64 (by omega) (by omega), fun _ => ⟨i + 1, ⟨by simp, q2⟩, by omega, by omega⟩⟩⟩
    · simp +contextual (maxSteps := 5000000) only [go_sem, ↓reduceIte, hlt]
      rw [show i = l.length by omega, List.take_length]
def c_Values1 (caps args : List D) : Prop × Out := match caps, args with | [.box [.sl 1 rows]], [] => (rows = (rows.map dI).map eI ∧ rows.length < 1000000000, .seq ((rows.map dI).map eI)) | _, _ => (False, .ret .any)
theorem st_Values1 : StC Tryz.prog 117 c_Values1 := by
  intro caps args; unfold c_Values1; split
  · rename_i rows
    rintro ⟨h1, h2⟩
    have := fc_Values1 (rows.map dI) (by simpa using h2)
    rw [← h1] at this ⊢
    exact this
  · exact fun h => h.elim
/- cross -/
def c_cross (caps args : List D) : Prop × Out := match caps, args with | [], [.sl 1 r1, .sl 1 r2] => (True, .ret (.fn 118 [] [.box [.sl 1 r1], .box [.sl 1 r2]])) | _, _ => (False, .ret .any)
theorem st_cross : StC Tryz.prog 102 c_cross := by
  intro caps args; unfold c_cross; split
  · rename_i rows
    intro _
    refine fc_M (fn := Tryz.f102) (C := (tab [] [])) (rs := [4]) mixed (by kernel_rfl) (by kernel_rfl) rfl rfl (by kernel_rfl) (by intro ys h; cases h) ?_
    simp +contextual (maxSteps := 5000000) only [go_sem, ↓reduceIte]
  · exact fun h => h.elim
def crF (a b : List Int) : List (Int × Int) := a.flatMap fun i => b.map fun p => (i, p)
def crD (a b : List Int) (i p : Nat) : List (Int × Int) := crF (a.take i) b ++ (b.take p).map fun q => (a.getD i 0, q)
theorem take_succ_of {l : List Int} {i : Nat} (h : i < l.length) : l.take (i + 1) = l.take i ++ [l.getD i 0] := by
  rw [List.take_add_one, List.getElem?_eq_getElem h, List.getD_eq_getElem?_getD, List.getElem?_eq_getElem h]; rfl
theorem crD_step {a b : List Int} {i p : Nat} (hi : i < a.length) (hp : p < b.length) : (∃ r, (crF a b).map eYs = (crD a b i p).map eYs ++ eYs (a.getD i 0, b.getD p 0) :: r) ∧ (crD a b i p).map eYs ++ [eYs (a.getD i 0, b.getD p 0)] = (crD a b i (p + 1)).map eYs := by
  have hb : b = b.take p ++ b.getD p 0 :: b.drop (p + 1) := by
    rw [List.getD_eq_getElem?_getD, List.getElem?_eq_getElem hp, Option.getD_some, List.getElem_cons_drop, List.take_append_drop]
  have ha : a = a.take i ++ a.getD i 0 :: a.drop (i + 1) := by
    rw [List.getD_eq_getElem?_getD, List.getElem?_eq_getElem hi, Option.getD_some, List.getElem_cons_drop, List.take_append_drop]
  constructor
  · refine ⟨((b.drop (p + 1)).map (fun q => (a.getD i 0, q)) ++ crF (a.drop (i + 1)) b).map eYs, ?_⟩
    rw [← List.map_cons, ← List.map_append]
    congr 1
    have h1 : crF a b = crF (a.take i) b ++ (b.map fun q => (a.getD i 0, q)) ++ crF (a.drop (i + 1)) b := by
      conv => lhs; rw [ha]
      simp [crF]
    have h2 : (b.map fun q => (a.getD i 0, q)) = (b.take p).map (fun q => (a.getD i 0, q)) ++ (a.getD i 0, b.getD p 0) :: (b.drop (p + 1)).map (fun q => (a.getD i 0, q)) := by
      conv => lhs; rw [hb]
      simp
    rw [h1, h2, crD]
    simp
  · unfold crD
    rw [take_succ_of hp, List.map_append (l₁ := b.take p), ← List.append_assoc, List.map_append (l₂ := List.map _ [b.getD p 0])]; rfl
theorem crD_end {a b : List Int} {i : Nat} (hi : i < a.length) : crD a b i b.length = crD a b (i + 1) 0 := by
  unfold crD
  rw [List.take_length, take_succ_of hi]
  simp [crF, List.flatMap_append]
theorem fc_cross1 (a b : List Int) (ha : a.length < 1000000000) (hb : b.length < 1000000000) : FC Tryz.prog 118 [.box [.sl 1 (a.map eI)], .box [.sl 1 (b.map eI)]] [] (.seq ((crF a b).map eYs)) := by
  refine fcy_M (fn := Tryz.f118) (C := (tab [] [])) mixed (by kernel_rfl) (by kernel_rfl) rfl rfl (by kernel_rfl) (by kernel_rfl) ?_
  simp +contextual (maxSteps := 5000000) only [go_sem, ↓reduceIte]
  refine fun _ => M_loopI (fun i : Nat => ⟨[(0, .yld 999), (2, .box [.sl 1 (b.map eI)]), (8, .sl 1 (a.map eI)), (9, .int .i64 a.length), (10, .int .i64 i)], [(999, .yl ((crF a b).map eYs) ((crD a b i 0).map eYs) false)]⟩) (fun i => a.length - i) (fun i => i ≤ a.length) 0 ?_ ?_
  · simp +contextual (maxSteps := 5000000) only [go_sem, ↓reduceIte, crD, crF, List.flatMap_nil]
    rfl
  · intro i hi
    by_cases hlt : i < a.length
    · simp +contextual (maxSteps := 5000000) only [go_sem, ↓reduceIte, eI_at, hlt]
      refine fun _ => M_loopI (fun p : Nat => ⟨[(0, .yld 999), (2, .box [.sl 1 (b.map eI)]), (5, .int .i64 (a.getD i 0)), (8, .sl 1 (a.map eI)), (9, .int .i64 a.length), (10, .int .i64 i), (14, .sl 1 (b.map eI)), (15, .int .i64 b.length), (16, .int .i64 p)], [(999, .yl ((crF a b).map eYs) ((crD a b i p).map eYs) false)]⟩) (fun p => b.length - p) (fun p => p ≤ b.length) 0 ?_ ?_
      · simp +contextual (maxSteps := 5000000) only [go_sem, ↓reduceIte]
        rfl
      · intro p hp
        by_cases hlp : p < b.length
        · obtain ⟨q1, q2⟩ := crD_step hlt hlp
          simp +contextual (maxSteps := 5000000) only [go_sem, ↓reduceIte, eI_at, hlp]
          exact ⟨q1, fun b hb => ⟨inR64 (by omega) (by omega), fun _ => ⟨p + 1, ⟨by simp, q2⟩, by omega, by omega⟩⟩⟩
        · simp +contextual (maxSteps := 5000000) only [go_sem, ↓reduceIte, hlp]
          have he := crD_end (b := b) hlt
          rw [show p = b.length by omega]
          refine ⟨inR64 (by omega) (by omega), fun _ => ⟨i + 1, ⟨by simp, by rw [he]⟩, by omega, by omega⟩⟩
    · simp +contextual (maxSteps := 5000000) only [go_sem, ↓reduceIte, hlt]
      rw [show i = a.length by omega]
      simp [crD, crF]
def c_cross1 (caps args : List D) : Prop × Out := match caps, args with | [.box [.sl 1 r1], .box [.sl 1 r2]], [] => ((r1 = (r1.map dI).map eI ∧ r1.length < 1000000000) ∧ r2 = (r2.map dI).map eI ∧ r2.length < 1000000000, .seq ((crF (r1.map dI) (r2.map dI)).map eYs)) | _, _ => (False, .ret .any)
theorem st_cross1 : StC Tryz.prog 118 c_cross1 := by
  intro caps args; unfold c_cross1; split
  · rename_i r1 r2
    rintro ⟨⟨h1, h2⟩, h3, h4⟩
    have := fc_cross1 (r1.map dI) (r2.map dI) (by simpa using h2) (by simpa using h4)
    rw [← h1, ← h3] at this
    exact this
  · exact fun h => h.elim
/- the closures that ask -/
def c_whole (caps args : List D) : Prop × Out := match caps, args with | [], [.int .i64 w] => (True, .ret (.fn 97 [] [.box [.int .i64 w]])) | _, _ => (False, .ret .any)
theorem st_whole : StC Tryz.prog 96 c_whole := by
  intro caps args; unfold c_whole; split
  · intro _
    refine fc_M (fn := Tryz.f96) (C := (tab [] [])) (rs := [2]) mixed (by kernel_rfl) (by kernel_rfl) rfl rfl (by kernel_rfl) (by intro ys h; cases h) ?_
    simp +contextual (maxSteps := 5000000) only [go_sem, ↓reduceIte]
  · exact fun h => h.elim
def c_isL (caps args : List D) : Prop × Out := match caps, args with | [.box [.int .i64 w]], [.agg [.int .i64 x, .sl 1 rows], .int .i64 k] => (True, .ret (.bool (decide (x = k ∧ (rows.length : Int) = w)))) | _, _ => (False, .ret .any)
theorem st_isL : StC Tryz.prog 97 c_isL := by
  intro caps args; unfold c_isL; split
  · rename_i w x rows k
    intro _
    refine fc_M (fn := Tryz.f97) (C := (tab [] [])) (rs := [5]) mixed (by kernel_rfl) (by kernel_rfl) rfl rfl (by kernel_rfl) (by intro ys h; cases h) ?_
    by_cases h : x = k
    · simp +contextual (maxSteps := 5000000) only [go_sem, ↓reduceIte, h]
    · simp +contextual (maxSteps := 5000000) only [go_sem, ↓reduceIte, h]
  · exact fun h => h.elim
def c_isS (caps args : List D) : Prop × Out := match caps, args with | [], [.agg [.int .i64 x, .int .i64 y, .str _], .agg [.int .i64 a, .int .i64 b, .str _]] => (True, .ret (.bool (decide (x = a ∧ y = b)))) | _, _ => (False, .ret .any)
theorem st_isS : StC Tryz.prog 100 c_isS := by
  intro caps args; unfold c_isS; split
  · rename_i x y _ a b _
    intro _
    refine fc_M (fn := Tryz.f100) (C := (tab [] [])) (rs := [4]) mixed (by kernel_rfl) (by kernel_rfl) rfl rfl (by kernel_rfl) (by intro ys h; cases h) ?_
    by_cases h : x = a
    · simp +contextual (maxSteps := 5000000) only [go_sem, ↓reduceIte, h]
    · simp +contextual (maxSteps := 5000000) only [go_sem, ↓reduceIte, h]
  · exact fun h => h.elim
end Go.Proofs.YtknkjakppikjeaaGreat

set_option linter.unusedSimpArgs false
namespace Go.Proofs.YtknkjakppikjeaaGreat
open Go.Tn
set_option maxHeartbeats 8000000
set_option maxRecDepth 100000
theorem z0 : ((0 : Nat) : Int) = 0 := rfl
theorem pz (n : Nat) : ((0 : Int) < ((n + 1 : Nat) : Int)) = True := eq_true (by omega)
/-- is one thing after the other what it should be? -/
def mtF {α β : Type} (q : α → β → Bool) : List α → List β → Bool
  | [], [] => true
  | x :: l, y :: r => q x y && mtF q l r
  | _, _ => false
def mtO (b : Bool) : Out := if b = true then .ret (.tup []) else .pan (.ifc 35 (.int .i64 13))
def isL (w : Int) (x : Ln) (k : Int) : Bool := decide (x.1 = k ∧ (x.2.length : Int) = w)
theorem fc_matchL (l : List Ln) (w : Int) (ks : List Int) (hl : l.length < 1000000000) (hk : ks.length < 1000000000) :
    FC Tryz.prog 98 [] [.sl 2 (l.map eL), .fn 117 [] [.box [.sl 1 (ks.map eI)]], .fn 97 [] [.box [.int .i64 w]]] (mtO (mtF (isL w) l ks)) := by
  have hns : ∀ ys, mtO (mtF (isL w) l ks) ≠ .seq ys := by intro ys; unfold mtO; split <;> intro h <;> cases h
  refine fc_M (fn := Tryz.f98) (C := tab [(117, c_Values1), (97, c_isL), (94, c_need)] [] [9003]) (rs := []) mixed (by kernel_rfl) (by kernel_rfl) rfl rfl (by kernel_rfl) hns ?_
  simp +contextual (maxSteps := 5000000) only [go_sem, ↓reduceIte]
  refine M_range (f := 117) (caps := [.box [.sl 1 (ks.map eI)]]) (ys := ks.map eI) (pre := (c_Values1 [.box [.sl 1 (ks.map eI)]] []).1) ?_ ?_ ?_ (σ := List Ln) [(3, .loc 3 0), (5, .loc 5 0)] (fun j s => [(3, .blk [.sl 2 (s.map eL)] false), (5, .blk [.fn 97 [] [.box [.int .i64 w]]] false)]) (fun j s => j ≤ ks.length ∧ s.length < 1000000000 ∧ mtF (isL w) s (ks.drop j) = mtF (isL w) l ks) l ?_ ?_ ?_ ?_
  · simp +contextual (maxSteps := 5000000) only [go_sem, ↓reduceIte]
  · simp +contextual (maxSteps := 5000000) only [go_sem, ↓reduceIte, c_Values1, dI_eI]
  · simp +contextual (maxSteps := 5000000) only [go_sem, ↓reduceIte, c_Values1, st_Values1, dI_eI]
    exact hk
  · simp +contextual (maxSteps := 5000000) only [go_sem, ↓reduceIte]
    intro y hy
    obtain ⟨x, _, rfl⟩ := List.mem_map.1 hy
    rfl
  · simp +contextual (maxSteps := 5000000) only [go_sem, ↓reduceIte]
    exact hl
  · intro j s hj hlt2
    obtain ⟨hj, hs, hm⟩ := hj
    have hlt3 : j < ks.length := by simpa using hlt2
    have hY : (ks.map eI).getD j [] = [.int .i64 (ks.getD j 0)] := eI_at ks j hlt3
    have hd : ks.drop j = ks.getD j 0 :: ks.drop (j + 1) := by
      rw [List.drop_eq_getElem_cons hlt3, List.getD_eq_getElem?_getD, List.getElem?_eq_getElem hlt3]; rfl
    rw [hd] at hm
    rw [hY]
    cases s with
    | nil =>
      simp +contextual (maxSteps := 5000000) only [go_sem, ↓reduceIte, putPs, c_need, st_need, z0, Int.lt_irrefl, Int.toNat_zero, Int.reduceToNat, Nat.sub_zero, Nat.le_refl]
      refine ⟨?_, ?_⟩
      · show lastA _ = true
        kernel_rfl
      · rw [← hm]; rfl
    | cons x r =>
      simp +contextual (maxSteps := 5000000) only [go_sem, ↓reduceIte, putPs, c_need, st_need, c_isL, st_isL, eL, pz, Int.toNat_zero, Int.reduceToNat, Nat.sub_zero, Nat.le_refl]
      refine ⟨?_, Int.le_refl _, fun _ => ?_⟩
      · show lastA _ = true
        kernel_rfl
      simp only [List.length_cons] at hs
      split
      · rename_i hq
        refine ⟨⟨by omega, by omega⟩, fun _ => ⟨r, List.take_of_length_le (by simp), by omega, by omega, ?_⟩⟩
        rw [← hm]
        have : isL w x (ks.getD j 0) = true := decide_eq_true hq
        simp only [mtF, this, Bool.true_and]
      · rename_i hq
        rw [← hm]
        have : isL w x (ks.getD j 0) = false := decide_eq_false hq
        simp only [mtF, this, mtO, Bool.false_and, Bool.false_eq_true, if_false]
  · intro s hs
    simp +contextual (maxSteps := 5000000) only [go_sem, ↓reduceIte, c_need, st_need]
    intro _
    obtain ⟨_, _, hm⟩ := hs
    rw [List.length_map, List.drop_length] at hm
    split
    · rename_i h0
      have : s = [] := List.eq_nil_of_length_eq_zero (by omega)
      subst this
      rw [← hm]; simp [mtF, mtO, wk, wkL]
    · rename_i h0
      rw [← hm]
      cases s with
      | nil => simp at h0
      | cons x r => simp [mtF, mtO]
def isS (x : Sp) (k : Int × Int) : Bool := decide (x.1 = k.1 ∧ x.2.1 = k.2)
theorem fc_matchS (l : List Sp) (a b : List Int) (hl : l.length < 1000000000) (ha : a.length < 1000000000) (hb : b.length < 1000000000) :
    FC Tryz.prog 101 [] [.sl 3 (l.map eSp), .fn 118 [] [.box [.sl 1 (a.map eI)], .box [.sl 1 (b.map eI)]], .fn 100 [] []] (mtO (mtF isS l (crF a b))) := by
  have hns : ∀ ys, mtO (mtF isS l (crF a b)) ≠ .seq ys := by intro ys; unfold mtO; split <;> intro h <;> cases h
  refine fc_M (fn := Tryz.f101) (C := tab [(118, c_cross1), (100, c_isS), (94, c_need)] [] [9003]) (rs := []) mixed (by kernel_rfl) (by kernel_rfl) rfl rfl (by kernel_rfl) hns ?_
  simp +contextual (maxSteps := 5000000) only [go_sem, ↓reduceIte]
  refine M_range (f := 118) (caps := [.box [.sl 1 (a.map eI)], .box [.sl 1 (b.map eI)]]) (ys := (crF a b).map eYs) (pre := (c_cross1 [.box [.sl 1 (a.map eI)], .box [.sl 1 (b.map eI)]] []).1) ?_ ?_ ?_ (σ := List Sp) [(3, .loc 3 0), (5, .loc 5 0)] (fun j s => [(3, .blk [.sl 3 (s.map eSp)] false), (5, .blk [.fn 100 [] []] false)]) (fun j s => j ≤ (crF a b).length ∧ s.length < 1000000000 ∧ mtF isS s ((crF a b).drop j) = mtF isS l (crF a b)) l ?_ ?_ ?_ ?_
  · simp +contextual (maxSteps := 5000000) only [go_sem, ↓reduceIte]
  · simp +contextual (maxSteps := 5000000) only [go_sem, ↓reduceIte, c_cross1, dI_eI]
  · simp +contextual (maxSteps := 5000000) only [go_sem, ↓reduceIte, c_cross1, st_cross1, dI_eI]
    exact ⟨ha, hb⟩
  · simp +contextual (maxSteps := 5000000) only [go_sem, ↓reduceIte]
    intro y hy
    obtain ⟨x, _, rfl⟩ := List.mem_map.1 hy
    rfl
  · simp +contextual (maxSteps := 5000000) only [go_sem, ↓reduceIte]
    exact hl
  · intro j s hj hlt2
    obtain ⟨hj, hs, hm⟩ := hj
    have hlt3 : j < (crF a b).length := by simpa using hlt2
    have hY : ((crF a b).map eYs).getD j [] = eYs ((crF a b).getD j (0, 0)) := at_of eYs (0, 0) _ j hlt3
    have hd : (crF a b).drop j = (crF a b).getD j (0, 0) :: (crF a b).drop (j + 1) := by
      rw [List.drop_eq_getElem_cons hlt3, List.getD_eq_getElem?_getD, List.getElem?_eq_getElem hlt3]; rfl
    rw [hd] at hm
    rw [hY]
    unfold eYs
    cases s with
    | nil =>
      simp +contextual (maxSteps := 5000000) only [go_sem, ↓reduceIte, putPs, c_need, st_need, z0, Int.lt_irrefl, Int.toNat_zero, Int.reduceToNat, Nat.sub_zero, Nat.le_refl]
      refine ⟨?_, ?_⟩
      · show lastA _ = true
        kernel_rfl
      · rw [← hm]; rfl
    | cons x r =>
      simp +contextual (maxSteps := 5000000) only [go_sem, ↓reduceIte, putPs, c_need, st_need, c_isS, st_isS, eSp, pz, Int.toNat_zero, Int.reduceToNat, Nat.sub_zero, Nat.le_refl]
      refine ⟨?_, Int.le_refl _, fun _ => ?_⟩
      · show lastA _ = true
        kernel_rfl
      simp only [List.length_cons] at hs
      split
      · rename_i hq
        refine ⟨⟨by omega, by omega⟩, fun _ => ⟨r, List.take_of_length_le (by simp), by omega, by omega, ?_⟩⟩
        rw [← hm]
        have : isS x ((crF a b).getD j (0, 0)) = true := decide_eq_true hq
        simp only [mtF, this, Bool.true_and]
      · rename_i hq
        rw [← hm]
        have : isS x ((crF a b).getD j (0, 0)) = false := decide_eq_false hq
        simp only [mtF, this, mtO, Bool.false_and, Bool.false_eq_true, if_false]
  · intro s hs
    simp +contextual (maxSteps := 5000000) only [go_sem, ↓reduceIte, c_need, st_need]
    intro _
    obtain ⟨_, _, hm⟩ := hs
    rw [List.length_map, List.drop_length] at hm
    split
    · rename_i h0
      have : s = [] := List.eq_nil_of_length_eq_zero (by omega)
      subst this
      rw [← hm]; simp [mtF, mtO, wk, wkL]
    · rename_i h0
      rw [← hm]
      cases s with
      | nil => simp at h0
      | cons x r => simp [mtF, mtO]
end Go.Proofs.YtknkjakppikjeaaGreat

set_option linter.unusedSimpArgs false
namespace Go.Proofs.YtknkjakppikjeaaGreat
open Go.Tn
set_option maxHeartbeats 8000000
set_option maxRecDepth 100000
/- slices.Grow of nil -/
theorem fc_GrowS (n : Int) (h0 : 0 ≤ n) (hb : n < 1099511627776) : FC Tryz.prog 128 [] [.nil, .int .i64 n] (.own 9 1 []) := by
  refine fc_M (fn := Tryz.f128) (C := (tab [] [])) (rs := [4]) mixed (by kernel_rfl) (by kernel_rfl) rfl rfl (by kernel_rfl) (by intro ys h; cases h) ?_
  have h1 : ¬ n < 0 := by omega
  by_cases h2 : 0 < n
  · simp +contextual (maxSteps := 5000000) only [go_sem, ↓reduceIte, h1, h2, Int.sub_self, Int.sub_zero, Int.toNat_zero, Int.reduceToNat, Nat.sub_zero, Nat.le_refl]
    refine ⟨inR64 (by omega) (by omega), fun _ => ⟨inR64 (by omega) (by omega), fun _ => ⟨by omega, fun _ => ?_⟩⟩⟩
    omega
  · simp +contextual (maxSteps := 5000000) only [go_sem, ↓reduceIte, h1, h2, Int.sub_self, Int.sub_zero, Int.toNat_zero, Int.reduceToNat, Nat.sub_zero, Nat.le_refl]
    exact ⟨inR64 (by omega) (by omega), fun _ => inR64 (by omega) (by omega)⟩
theorem fc_GrowL (n : Int) (h0 : 0 ≤ n) (hb : n < 1099511627776) : FC Tryz.prog 129 [] [.nil, .int .i64 n] (.own 52 2 []) := by
  refine fc_M (fn := Tryz.f129) (C := (tab [] [])) (rs := [4]) mixed (by kernel_rfl) (by kernel_rfl) rfl rfl (by kernel_rfl) (by intro ys h; cases h) ?_
  have h1 : ¬ n < 0 := by omega
  by_cases h2 : 0 < n
  · simp +contextual (maxSteps := 5000000) only [go_sem, ↓reduceIte, h1, h2, Int.sub_self, Int.sub_zero, Int.toNat_zero, Int.reduceToNat, Nat.sub_zero, Nat.le_refl]
    refine ⟨inR64 (by omega) (by omega), fun _ => ⟨inR64 (by omega) (by omega), fun _ => ⟨by omega, fun _ => ?_⟩⟩⟩
    omega
  · simp +contextual (maxSteps := 5000000) only [go_sem, ↓reduceIte, h1, h2, Int.sub_self, Int.sub_zero, Int.toNat_zero, Int.reduceToNat, Nat.sub_zero, Nat.le_refl]
    exact ⟨inR64 (by omega) (by omega), fun _ => inR64 (by omega) (by omega)⟩
theorem fc_GrowP (n : Int) (h0 : 0 ≤ n) (hb : n < 1099511627776) : FC Tryz.prog 130 [] [.nil, .int .i64 n] (.own 71 3 []) := by
  refine fc_M (fn := Tryz.f130) (C := (tab [] [])) (rs := [4]) mixed (by kernel_rfl) (by kernel_rfl) rfl rfl (by kernel_rfl) (by intro ys h; cases h) ?_
  have h1 : ¬ n < 0 := by omega
  by_cases h2 : 0 < n
  · simp +contextual (maxSteps := 5000000) only [go_sem, ↓reduceIte, h1, h2, Int.sub_self, Int.sub_zero, Int.toNat_zero, Int.reduceToNat, Nat.sub_zero, Nat.le_refl]
    refine ⟨inR64 (by omega) (by omega), fun _ => ⟨inR64 (by omega) (by omega), fun _ => ⟨by omega, fun _ => ?_⟩⟩⟩
    omega
  · simp +contextual (maxSteps := 5000000) only [go_sem, ↓reduceIte, h1, h2, Int.sub_self, Int.sub_zero, Int.toNat_zero, Int.reduceToNat, Nat.sub_zero, Nat.le_refl]
    exact ⟨inR64 (by omega) (by omega), fun _ => inR64 (by omega) (by omega)⟩
def c_Grow (e sz : Nat) (caps args : List D) : Prop × Out := match caps, args with | [], [.nil, .int .i64 n] => (0 ≤ n ∧ n < 1099511627776, .own e sz []) | _, _ => (False, .ret .any)
theorem st_GrowS : StC Tryz.prog 128 (c_Grow 9 1) := by
  intro caps args; unfold c_Grow; split
  · exact fun h => fc_GrowS _ h.1 h.2
  · exact fun h => h.elim
theorem st_GrowL : StC Tryz.prog 129 (c_Grow 52 2) := by
  intro caps args; unfold c_Grow; split
  · exact fun h => fc_GrowL _ h.1 h.2
  · exact fun h => h.elim
theorem st_GrowP : StC Tryz.prog 130 (c_Grow 71 3) := by
  intro caps args; unfold c_Grow; split
  · exact fun h => fc_GrowP _ h.1 h.2
  · exact fun h => h.elim
end Go.Proofs.YtknkjakppikjeaaGreat

set_option linter.unusedSimpArgs false
namespace Go.Proofs.YtknkjakppikjeaaGreat
open Go.Tn
set_option maxHeartbeats 8000000
set_option maxRecDepth 100000
/- slices.Concat of lists, slices.Clone -/
def eSl (z : Nat) (r : List (List D)) : List D := [.sl z r]
theorem eSl_at (z : Nat) (L : List (List (List D))) (i : Nat) (h : i < L.length) : (L.map (eSl z)).getD i [] = [.sl z (L.getD i [])] := at_of (eSl z) [] L i h
theorem cat_succ {L : List (List (List D))} {i : Nat} (h : i < L.length) : (L.take (i + 1)).flatten = (L.take i).flatten ++ L.getD i [] := by
  rw [List.take_add_one, List.flatten_append, List.getElem?_eq_getElem h, List.getD_eq_getElem?_getD, List.getElem?_eq_getElem h]; simp
theorem cat_len {L : List (List (List D))} {i : Nat} (h : i < L.length) : (L.take (i + 1)).flatten.length = (L.take i).flatten.length + (L.getD i []).length := by rw [cat_succ h, List.length_append]
theorem cat_le (L : List (List (List D))) (i : Nat) : (L.take i).flatten.length ≤ L.flatten.length := by
  have := congrArg List.flatten (List.take_append_drop i L)
  rw [List.flatten_append] at this
  rw [← this, List.length_append]; omega
theorem fc_sl0 {P : Program} {f : Nat} {caps : List D} {z : Nat} {out : Out} (hns : ∀ ys, out ≠ .seq ys) (h : ∀ a c, FC P f caps [.val (.slice a 0 c)] out) : FC P f caps [.sl z []] out := by
  have key : ∀ {S : Ex} {w : World} {vs : List Value}, RdL S w [.sl z []] noPl vs → ∃ a c, RdL S w [.val (.slice a 0 c)] noPl vs := fun {S w vs} h => by
    obtain ⟨v, r, rfl, h1, h2⟩ := h
    simp only [RdL] at h2; subst h2
    simp only [Rd] at h1
    obtain ⟨a, cap, rfl, _⟩ := h1
    exact ⟨a, cap, _, [], rfl, rfl, rfl⟩
  cases out with
  | seq ys => exact absurd rfl (hns ys)
  | ret d => exact ⟨(h none 0).1, fun S w cs vs hx h1 h2 => by obtain ⟨a, c, h3⟩ := key h2; exact (h a c).2 S w cs vs hx h1 h3⟩
  | own e sz rows => exact ⟨(h none 0).1, fun S w cs vs hx h1 h2 => by obtain ⟨a, c, h3⟩ := key h2; exact (h a c).2 S w cs vs hx h1 h3⟩
  | pan d => exact ⟨(h none 0).1, fun S w cs vs hx h1 h2 => by obtain ⟨a, c, h3⟩ := key h2; exact (h a c).2 S w cs vs hx h1 h3⟩
def c_Clone (e z : Nat) (caps args : List D) : Prop × Out := match caps, args with
  | [], [.sl z1 l] => (z1 = z ∧ l.length < 1000000000, .own e z l)
  | _, _ => (False, .ret .any)
theorem nat_nlt0 (n : Nat) : ((n : Int) < 0) = False := by simp
def c_Cat (e z : Nat) (caps args : List D) : Prop × Out := match caps, args with
  | [], [.sl 1 [[.sl z1 a], [.sl z2 b]]] => (z1 = z ∧ z2 = z ∧ (a ++ b).length < 1000000000, .own e z (a ++ b))
  | _, _ => (False, .ret .any)
theorem fc_ConcatS (L : List (List (List D))) (hl : L.length < 1000) (hb : L.flatten.length < 1000000000) :
    FC Tryz.prog 121 [] [.sl 1 (L.map (eSl 1))] (.own 9 1 L.flatten) := by
  refine fc_M (fn := Tryz.f121) (C := (tab [(128, c_Grow 9 1)] [])) (rs := [2]) mixed (by kernel_rfl) (by kernel_rfl) rfl rfl (by kernel_rfl) (by intro ys h; cases h) ?_
  simp +contextual (maxSteps := 5000000) only [go_sem, ↓reduceIte]
  intro _
  refine M_loopI (fun i : Nat => ⟨[(0, .sl 1 (L.map (eSl 1))), (3, .int .i64 (L.take i).flatten.length), (9, .sl 1 (L.map (eSl 1))), (10, .int .i64 L.length), (11, .int .i64 i)], []⟩) (fun i => L.length - i) (fun i => i ≤ L.length) 0 ?_ ?_
  · simp +contextual (maxSteps := 5000000) only [go_sem, ↓reduceIte]
    rfl
  · intro i hi
    by_cases hlt : i < L.length
    · have h2 := cat_len hlt
      have h3 := cat_le L (i + 1)
      have h0 : ¬ (((L.take i).flatten.length : Int) + ((L.getD i []).length : Int) < 0) := by omega
      simp +contextual (maxSteps := 5000000) only [go_sem, ↓reduceIte, hlt, eSl_at, h0]
      refine fun _ => ⟨inR64 (by omega) (by omega), fun _ => ⟨inR64 (by omega) (by omega), fun _ => ⟨i + 1, ⟨by rw [h2]; simp, by simp⟩, by omega, by omega⟩⟩⟩
    · have he : i = L.length := by omega
      subst he
      have hg := st_GrowS
      have h3 := cat_le L L.length
      simp +contextual (maxSteps := 5000000) only [go_sem, ↓reduceIte, hlt, hg, c_Grow, List.take_length]
      refine ⟨by omega, ?_⟩
      intro _
      refine M_loopI (fun i : Nat => ⟨[(0, .sl 1 (L.map (eSl 1))), (6, .vec 24 (L.take i).flatten.length), (25, .sl 1 (L.map (eSl 1))), (26, .int .i64 L.length), (27, .int .i64 i)], [(24, .vec 9 1 (L.take i).flatten 0)]⟩) (fun i => L.length - i) (fun i => i ≤ L.length) 0 ?_ ?_
      · simp +contextual (maxSteps := 5000000) only [go_sem, ↓reduceIte]
        rfl
      · intro i hi
        by_cases hlt : i < L.length
        · have h2 := cat_len hlt
          have h4 := cat_succ hlt
          have h3 := cat_le L (i + 1)
          simp +contextual (maxSteps := 5000000) only [go_sem, ↓reduceIte, hlt, eSl_at]
          exact ⟨by omega, fun _ => ⟨inR64 (by omega) (by omega), fun _ => ⟨i + 1, ⟨⟨by rw [h2], by simp⟩, by rw [h4]⟩, by omega, by omega⟩⟩⟩
        · have he : i = L.length := by omega
          subst he
          simp +contextual (maxSteps := 5000000) only [go_sem, ↓reduceIte, hlt, List.take_length]
theorem st_ConcatS : StC Tryz.prog 121 (c_Cat 9 1) := by
  intro caps args; unfold c_Cat; split
  · rename_i z1 a z2 b
    rintro ⟨rfl, rfl, h⟩
    have := fc_ConcatS [a, b] (by simp) (by simpa using h)
    simpa [eSl] using this
  · exact fun h => h.elim
theorem fc_ConcatL (L : List (List (List D))) (hl : L.length < 1000) (hb : L.flatten.length < 1000000000) :
    FC Tryz.prog 122 [] [.sl 1 (L.map (eSl 2))] (.own 52 2 L.flatten) := by
  refine fc_M (fn := Tryz.f122) (C := (tab [(129, c_Grow 52 2)] [])) (rs := [2]) mixed (by kernel_rfl) (by kernel_rfl) rfl rfl (by kernel_rfl) (by intro ys h; cases h) ?_
  simp +contextual (maxSteps := 5000000) only [go_sem, ↓reduceIte]
  intro _
  refine M_loopI (fun i : Nat => ⟨[(0, .sl 1 (L.map (eSl 2))), (3, .int .i64 (L.take i).flatten.length), (9, .sl 1 (L.map (eSl 2))), (10, .int .i64 L.length), (11, .int .i64 i)], []⟩) (fun i => L.length - i) (fun i => i ≤ L.length) 0 ?_ ?_
  · simp +contextual (maxSteps := 5000000) only [go_sem, ↓reduceIte]
    rfl
  · intro i hi
    by_cases hlt : i < L.length
    · have h2 := cat_len hlt
      have h3 := cat_le L (i + 1)
      have h0 : ¬ (((L.take i).flatten.length : Int) + ((L.getD i []).length : Int) < 0) := by omega
      simp +contextual (maxSteps := 5000000) only [go_sem, ↓reduceIte, hlt, eSl_at, h0]
      refine fun _ => ⟨inR64 (by omega) (by omega), fun _ => ⟨inR64 (by omega) (by omega), fun _ => ⟨i + 1, ⟨by rw [h2]; simp, by simp⟩, by omega, by omega⟩⟩⟩
    · have he : i = L.length := by omega
      subst he
      have hg := st_GrowL
      have h3 := cat_le L L.length
      simp +contextual (maxSteps := 5000000) only [go_sem, ↓reduceIte, hlt, hg, c_Grow, List.take_length]
      refine ⟨by omega, ?_⟩
      intro _
      refine M_loopI (fun i : Nat => ⟨[(0, .sl 1 (L.map (eSl 2))), (6, .vec 24 (L.take i).flatten.length), (25, .sl 1 (L.map (eSl 2))), (26, .int .i64 L.length), (27, .int .i64 i)], [(24, .vec 52 2 (L.take i).flatten 0)]⟩) (fun i => L.length - i) (fun i => i ≤ L.length) 0 ?_ ?_
      · simp +contextual (maxSteps := 5000000) only [go_sem, ↓reduceIte]
        rfl
      · intro i hi
        by_cases hlt : i < L.length
        · have h2 := cat_len hlt
          have h4 := cat_succ hlt
          have h3 := cat_le L (i + 1)
          simp +contextual (maxSteps := 5000000) only [go_sem, ↓reduceIte, hlt, eSl_at]
          exact ⟨by omega, fun _ => ⟨inR64 (by omega) (by omega), fun _ => ⟨i + 1, ⟨⟨by rw [h2], by simp⟩, by rw [h4]⟩, by omega, by omega⟩⟩⟩
        · have he : i = L.length := by omega
          subst he
          simp +contextual (maxSteps := 5000000) only [go_sem, ↓reduceIte, hlt, List.take_length]
theorem st_ConcatL : StC Tryz.prog 122 (c_Cat 52 2) := by
  intro caps args; unfold c_Cat; split
  · rename_i z1 a z2 b
    rintro ⟨rfl, rfl, h⟩
    have := fc_ConcatL [a, b] (by simp) (by simpa using h)
    simpa [eSl] using this
  · exact fun h => h.elim
theorem fc_ConcatP (L : List (List (List D))) (hl : L.length < 1000) (hb : L.flatten.length < 1000000000) :
    FC Tryz.prog 123 [] [.sl 1 (L.map (eSl 3))] (.own 71 3 L.flatten) := by
  refine fc_M (fn := Tryz.f123) (C := (tab [(130, c_Grow 71 3)] [])) (rs := [2]) mixed (by kernel_rfl) (by kernel_rfl) rfl rfl (by kernel_rfl) (by intro ys h; cases h) ?_
  simp +contextual (maxSteps := 5000000) only [go_sem, ↓reduceIte]
  intro _
  refine M_loopI (fun i : Nat => ⟨[(0, .sl 1 (L.map (eSl 3))), (3, .int .i64 (L.take i).flatten.length), (9, .sl 1 (L.map (eSl 3))), (10, .int .i64 L.length), (11, .int .i64 i)], []⟩) (fun i => L.length - i) (fun i => i ≤ L.length) 0 ?_ ?_
  · simp +contextual (maxSteps := 5000000) only [go_sem, ↓reduceIte]
    rfl
  · intro i hi
    by_cases hlt : i < L.length
    · have h2 := cat_len hlt
      have h3 := cat_le L (i + 1)
      have h0 : ¬ (((L.take i).flatten.length : Int) + ((L.getD i []).length : Int) < 0) := by omega
      simp +contextual (maxSteps := 5000000) only [go_sem, ↓reduceIte, hlt, eSl_at, h0]
      refine fun _ => ⟨inR64 (by omega) (by omega), fun _ => ⟨inR64 (by omega) (by omega), fun _ => ⟨i + 1, ⟨by rw [h2]; simp, by simp⟩, by omega, by omega⟩⟩⟩
    · have he : i = L.length := by omega
      subst he
      have hg := st_GrowP
      have h3 := cat_le L L.length
      simp +contextual (maxSteps := 5000000) only [go_sem, ↓reduceIte, hlt, hg, c_Grow, List.take_length]
      refine ⟨by omega, ?_⟩
      intro _
      refine M_loopI (fun i : Nat => ⟨[(0, .sl 1 (L.map (eSl 3))), (6, .vec 24 (L.take i).flatten.length), (25, .sl 1 (L.map (eSl 3))), (26, .int .i64 L.length), (27, .int .i64 i)], [(24, .vec 71 3 (L.take i).flatten 0)]⟩) (fun i => L.length - i) (fun i => i ≤ L.length) 0 ?_ ?_
      · simp +contextual (maxSteps := 5000000) only [go_sem, ↓reduceIte]
        rfl
      · intro i hi
        by_cases hlt : i < L.length
        · have h2 := cat_len hlt
          have h4 := cat_succ hlt
          have h3 := cat_le L (i + 1)
          simp +contextual (maxSteps := 5000000) only [go_sem, ↓reduceIte, hlt, eSl_at]
          exact ⟨by omega, fun _ => ⟨inR64 (by omega) (by omega), fun _ => ⟨i + 1, ⟨⟨by rw [h2], by simp⟩, by rw [h4]⟩, by omega, by omega⟩⟩⟩
        · have he : i = L.length := by omega
          subst he
          simp +contextual (maxSteps := 5000000) only [go_sem, ↓reduceIte, hlt, List.take_length]
theorem st_ConcatP : StC Tryz.prog 123 (c_Cat 71 3) := by
  intro caps args; unfold c_Cat; split
  · rename_i z1 a z2 b
    rintro ⟨rfl, rfl, h⟩
    have := fc_ConcatP [a, b] (by simp) (by simpa using h)
    simpa [eSl] using this
  · exact fun h => h.elim
theorem fc_CloneS0 (a : Option Addr) (n c : Nat) (h : n = 0) : FC Tryz.prog 23 [] [.val (.slice a n c)] (.own 9 1 []) := by
  subst h
  refine fc_M (fn := Tryz.f23) (C := (tab [] [])) (rs := [2]) mixed (by kernel_rfl) (by kernel_rfl) rfl rfl (by kernel_rfl) (by intro ys h; cases h) ?_
  cases a with
  | none => simp +contextual (maxSteps := 5000000) only [go_sem, ↓reduceIte, Option.isNone_none]
  | some a => simp +contextual (maxSteps := 5000000) only [go_sem, ↓reduceIte, Option.isNone_some]
theorem fc_CloneS1 (x : List D) (l : List (List D)) (hl : (x :: l).length < 1000000000) : FC Tryz.prog 23 [] [.sl 1 (x :: l)] (.own 9 1 (x :: l)) := by
  refine fc_M (fn := Tryz.f23) (C := (tab [] [])) (rs := [2]) mixed (by kernel_rfl) (by kernel_rfl) rfl rfl (by kernel_rfl) (by intro ys h; cases h) ?_
  simp +contextual (maxSteps := 5000000) only [go_sem, ↓reduceIte]
  simp only [List.length_cons] at hl
  omega
theorem st_CloneS : StC Tryz.prog 23 (c_Clone 9 1) := by
  intro caps args; unfold c_Clone; split
  · rename_i z1 l
    rintro ⟨rfl, h⟩
    cases l with
    | nil => exact fc_sl0 (fun ys h => by cases h) fun a c => fc_CloneS0 a 0 c rfl
    | cons x l => exact fc_CloneS1 x l h
  · exact fun h => h.elim
theorem fc_CloneP0 (a : Option Addr) (n c : Nat) (h : n = 0) : FC Tryz.prog 80 [] [.val (.slice a n c)] (.own 71 3 []) := by
  subst h
  refine fc_M (fn := Tryz.f80) (C := (tab [] [])) (rs := [2]) mixed (by kernel_rfl) (by kernel_rfl) rfl rfl (by kernel_rfl) (by intro ys h; cases h) ?_
  cases a with
  | none => simp +contextual (maxSteps := 5000000) only [go_sem, ↓reduceIte, Option.isNone_none]
  | some a => simp +contextual (maxSteps := 5000000) only [go_sem, ↓reduceIte, Option.isNone_some]
theorem fc_CloneP1 (x : List D) (l : List (List D)) (hl : (x :: l).length < 1000000000) : FC Tryz.prog 80 [] [.sl 3 (x :: l)] (.own 71 3 (x :: l)) := by
  refine fc_M (fn := Tryz.f80) (C := (tab [] [])) (rs := [2]) mixed (by kernel_rfl) (by kernel_rfl) rfl rfl (by kernel_rfl) (by intro ys h; cases h) ?_
  simp +contextual (maxSteps := 5000000) only [go_sem, ↓reduceIte]
  simp only [List.length_cons] at hl
  omega
theorem st_CloneP : StC Tryz.prog 80 (c_Clone 71 3) := by
  intro caps args; unfold c_Clone; split
  · rename_i z1 l
    rintro ⟨rfl, h⟩
    cases l with
    | nil => exact fc_sl0 (fun ys h => by cases h) fun a c => fc_CloneP0 a 0 c rfl
    | cons x l => exact fc_CloneP1 x l h
  · exact fun h => h.elim
end Go.Proofs.YtknkjakppikjeaaGreat
