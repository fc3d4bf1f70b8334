/-
  What the functions compute that the law of this claim reaches. By an AI agent.
-/
import Derived.Shelf.Strconv.Itoa3
import Derived.Shelf.Strings.Search3
import Derived.Test.YtlabdffgcciepaaGreatDoorChecked
import Derived.Test.YtlabdffgcciepaaGreatDoorProg
import Derived.Lib.IndexMore
import Derived.Test.YtlabdffgcciepaaGreatDoorTn0
import Derived.Test.YtlabdffgcciepaaGreatDoorTn1
import Derived.Test.YtlabdffgcciepaaGreatDoorTn2
import Derived.Test.YtlabdffgcciepaaGreatDoorTn3
import Derived.Test.YtlabdffgcciepaaGreatDoorTn4
import Derived.Test.YtlabdffgcciepaaGreatDoorTn5
import Derived.Test.YtlabdffgcciepaaGreatDoorTn6
import Derived.Test.YtlabdffgcciepaaGreatDoorTn7
import Derived.Test.YtlabdffgcciepaaGreatDoorTn8
import Derived.Test.YtlabdffgcciepaaGreatDoorTn9
import Derived.Test.YtlabdffgcciepaaGreatDoorTn10
import Derived.Test.YtlabdffgcciepaaGreatDoorTn11
import Derived.Test.YtlabdffgcciepaaGreatDoorTn12
import Derived.Test.YtlabdffgcciepaaGreatDoorTn13
import Derived.Test.YtlabdffgcciepaaGreatDoorTn14
import Derived.Test.YtlabdffgcciepaaGreatDoorTh
import Derived.Test.YtlabdffgcciepaaGreatDoorTn15
import Derived.Test.YtlabdffgcciepaaGreatDoorTM
import Derived.Test.YtlabdffgcciepaaGreatDoorTv
import Derived.Test.YtlabdffgcciepaaGreatDoorTo
import Derived.Test.YtlabdffgcciepaaGreatDoorTnv
import Derived.Test.YtlabdffgcciepaaGreatDoorTiv
import Derived.Test.YtlabdffgcciepaaGreatDoorTmv
import Derived.Test.YtlabdffgcciepaaGreatDoorTn16
import Derived.Test.YtlabdffgcciepaaGreatDoorTn17
import Derived.Test.YtlabdffgcciepaaGreatDoorTn18
import Derived.Test.YtlabdffgcciepaaGreatDoorTn19
import Derived.Test.YtlabdffgcciepaaGreatDoorTn20
import Derived.Test.YtlabdffgcciepaaGreatDoorTz
import Derived.Test.YtlabdffgcciepaaGreatDoorTzs
import Derived.Test.YtlabdffgcciepaaGreatDoorTt
import Derived.Test.YtlabdffgcciepaaGreatDoorTza
import Derived.Test.YtlabdffgcciepaaGreatDoorTzb
import Derived.Test.YtlabdffgcciepaaGreatDoorTn21
import Derived.Test.YtlabdffgcciepaaGreatDoorTn23
import Derived.Test.YtlabdffgcciepaaGreatDoorTn24
import Derived.Test.YtlabdffgcciepaaGreatDoorTn25
import Derived.Test.YtlabdffgcciepaaGreatDoorTn26
import Derived.Test.YtlabdffgcciepaaGreatDoorTn27
import Derived.Test.YtlabdffgcciepaaGreatDoorTzc
import Derived.Test.YtlabdffgcciepaaGreatDoorTn28
import Derived.Test.YtlabdffgcciepaaGreatDoorTn29
import Derived.Test.YtlabdffgcciepaaGreatDoorTn30
import Derived.Test.YtlabdffgcciepaaGreatDoorTe
import Derived.Test.YtlabdffgcciepaaGreatDoorTj
import Derived.Test.YtlabdffgcciepaaGreatDoorTf
set_option linter.unusedSimpArgs false
set_option linter.unusedVariables false
set_option linter.unusedSectionVars false
namespace Go.Proofs
open Go.Shelf
def Tryz.laysM171_ren : Go.Shelf.Ren := ⟨fun | 171 => 118 | 243 => 121 | 246 => 123 | 283 => 128 | 284 => 129 | 285 => 130 | 286 => 131 | 129 => 135 | 317 => 134 | 318 => 136 | 319 => 137 | 320 => 138 | 337 => 139 | 338 => 140 | n => n, fun | 3 => 3 | 9 => 9 | 2 => 2 | 4 => 4 | 171 => 160 | 0 => 0 | 53 => 161 | 37 => 155 | 5 => 5 | 173 => 164 | 212 => 170 | 51 => 166 | 20 => 20 | 213 => 171 | 46 => 159 | 232 => 174 | 233 => 175 | n => n, fun | 17 => 1 | 18 => 2 | 19 => 3 | n => n⟩
theorem Tryz.laysM171 : Go.Proofs.LaysM.n171 Tryz.prog Tryz.laysM171_ren := {
  mixed := by kernel_rfl,
  f129 := Tryz.func135.trans (congrArg some (by kernel_rfl)),
  f171 := Tryz.func118.trans (congrArg some (by kernel_rfl)),
  f243 := Tryz.func121.trans (congrArg some (by kernel_rfl)),
  f246 := Tryz.func123.trans (congrArg some (by kernel_rfl)),
  f283 := Tryz.func128.trans (congrArg some (by kernel_rfl)),
  f284 := Tryz.func129.trans (congrArg some (by kernel_rfl)),
  f285 := Tryz.func130.trans (congrArg some (by kernel_rfl)),
  f286 := Tryz.func131.trans (congrArg some (by kernel_rfl)),
  f317 := Tryz.func134.trans (congrArg some (by kernel_rfl)),
  f318 := Tryz.func136.trans (congrArg some (by kernel_rfl)),
  f319 := Tryz.func137.trans (congrArg some (by kernel_rfl)),
  f320 := Tryz.func138.trans (congrArg some (by kernel_rfl)),
  f337 := Tryz.func139.trans (congrArg some (by kernel_rfl)),
  f338 := Tryz.func140.trans (congrArg some (by kernel_rfl)),
  t0 := Tryz.underlying0,
  a0 := Tryz.isAgg0,
  z0 := Tryz.sizeOf0,
  v0 := Tryz.zeroValue0,
  t2 := Tryz.underlying2,
  a2 := Tryz.isAgg2,
  z2 := Tryz.sizeOf2,
  v2 := Tryz.zeroValue2,
  t3 := Tryz.underlying3,
  a3 := Tryz.isAgg3,
  z3 := Tryz.sizeOf3,
  v3 := Tryz.zeroValue3,
  t4 := Tryz.underlying4,
  a4 := Tryz.isAgg4,
  z4 := Tryz.sizeOf4,
  v4 := Tryz.zeroValue4,
  t5 := Tryz.underlying5,
  a5 := Tryz.isAgg5,
  z5 := Tryz.sizeOf5,
  v5 := Tryz.zeroValue5,
  t9 := Tryz.underlying9,
  a9 := Tryz.isAgg9,
  z9 := Tryz.sizeOf9,
  v9 := Tryz.zeroValue9,
  t20 := Tryz.underlying20,
  a20 := Tryz.isAgg20,
  z20 := Tryz.sizeOf20,
  v20 := Tryz.zeroValue20,
  t37 := Tryz.underlying155,
  a37 := Tryz.isAgg155,
  z37 := Tryz.sizeOf155,
  v37 := Tryz.zeroValue155,
  t46 := Tryz.underlying159,
  a46 := Tryz.isAgg159,
  z46 := Tryz.sizeOf159,
  v46 := Tryz.zeroValue159,
  t51 := Tryz.underlying166,
  a51 := Tryz.isAgg166,
  z51 := Tryz.sizeOf166,
  v51 := Tryz.zeroValue166,
  t53 := Tryz.underlying161,
  a53 := Tryz.isAgg161,
  z53 := Tryz.sizeOf161,
  v53 := Tryz.zeroValue161,
  t171 := Tryz.underlying160,
  a171 := Tryz.isAgg160,
  z171 := Tryz.sizeOf160,
  v171 := Tryz.zeroValue160,
  t173 := Tryz.underlying164,
  a173 := Tryz.isAgg164,
  z173 := Tryz.sizeOf164,
  v173 := Tryz.zeroValue164,
  t212 := Tryz.underlying170,
  a212 := Tryz.isAgg170,
  z212 := Tryz.sizeOf170,
  v212 := Tryz.zeroValue170,
  t213 := Tryz.underlying171,
  a213 := Tryz.isAgg171,
  z213 := Tryz.sizeOf171,
  t232 := Tryz.underlying174,
  a232 := Tryz.isAgg174,
  z232 := Tryz.sizeOf174,
  v232 := Tryz.zeroValue174,
  t233 := Tryz.underlying175,
  a233 := Tryz.isAgg175,
  z233 := Tryz.sizeOf175,
  v233 := Tryz.zeroValue175,
  g17 := by kernel_rfl,
  g18 := by kernel_rfl,
  g19 := by kernel_rfl,
  i0 := by kernel_rfl,
  i2 := by kernel_rfl,
  i3 := by kernel_rfl,
  i4 := by kernel_rfl,
  i5 := by kernel_rfl,
  i9 := by kernel_rfl,
  i20 := by kernel_rfl,
  i37 := by kernel_rfl,
  i46 := by kernel_rfl,
  i51 := by kernel_rfl,
  i53 := by kernel_rfl,
  i171 := by kernel_rfl,
  i173 := by kernel_rfl,
  i212 := by kernel_rfl,
  i232 := by kernel_rfl,
  i233 := by kernel_rfl,
  m17 := by kernel_rfl,
  m18 := by kernel_rfl,
  m19 := by kernel_rfl }
def Tryz.laysM144_ren : Go.Shelf.Ren := ⟨fun | 144 => 117 | 143 => 120 | 219 => 122 | 217 => 124 | 225 => 125 | 224 => 126 | 267 => 127 | 266 => 132 | 314 => 133 | n => n, fun | 9 => 9 | 4 => 4 | 3 => 3 | 5 => 5 | 46 => 159 | 146 => 167 | 51 => 166 | n => n, fun | 1 => 0 | n => n⟩
theorem Tryz.laysM144 : Go.Proofs.LaysM.n144 Tryz.prog Tryz.laysM144_ren := {
  mixed := by kernel_rfl,
  f143 := Tryz.func120.trans (congrArg some (by kernel_rfl)),
  f144 := Tryz.func117.trans (congrArg some (by kernel_rfl)),
  f217 := Tryz.func124.trans (congrArg some (by kernel_rfl)),
  f219 := Tryz.func122.trans (congrArg some (by kernel_rfl)),
  f224 := Tryz.func126.trans (congrArg some (by kernel_rfl)),
  f225 := Tryz.func125.trans (congrArg some (by kernel_rfl)),
  f266 := Tryz.func132.trans (congrArg some (by kernel_rfl)),
  f267 := Tryz.func127.trans (congrArg some (by kernel_rfl)),
  f314 := Tryz.func133.trans (congrArg some (by kernel_rfl)),
  t3 := Tryz.underlying3,
  a3 := Tryz.isAgg3,
  z3 := Tryz.sizeOf3,
  v3 := Tryz.zeroValue3,
  t4 := Tryz.underlying4,
  a4 := Tryz.isAgg4,
  z4 := Tryz.sizeOf4,
  v4 := Tryz.zeroValue4,
  t5 := Tryz.underlying5,
  a5 := Tryz.isAgg5,
  z5 := Tryz.sizeOf5,
  v5 := Tryz.zeroValue5,
  t9 := Tryz.underlying9,
  a9 := Tryz.isAgg9,
  z9 := Tryz.sizeOf9,
  v9 := Tryz.zeroValue9,
  t46 := Tryz.underlying159,
  a46 := Tryz.isAgg159,
  z46 := Tryz.sizeOf159,
  v46 := Tryz.zeroValue159,
  t51 := Tryz.underlying166,
  a51 := Tryz.isAgg166,
  z51 := Tryz.sizeOf166,
  v51 := Tryz.zeroValue166,
  t146 := Tryz.underlying167,
  a146 := Tryz.isAgg167,
  z146 := Tryz.sizeOf167,
  v146 := Tryz.zeroValue167,
  g1 := by kernel_rfl,
  i3 := by kernel_rfl,
  i4 := by kernel_rfl,
  i5 := by kernel_rfl,
  i9 := by kernel_rfl,
  i46 := by kernel_rfl,
  i51 := by kernel_rfl,
  i146 := by kernel_rfl,
  m1 := by kernel_rfl,
  s1_3 := fun w h => Go.Proofs.cell_of_shapedOpen_int (zero := #[.int .i64 0]) (t := 3) h (of_decide_eq_true (by kernel_rfl)) (by kernel_rfl) rfl (by kernel_rfl) (by kernel_rfl) Tryz.underlying3 }
end Go.Proofs
namespace Go.Proofs.YtlabdffgcciepaaGreatDoor
open Go.Tn
theorem y1 : tyOf Tryz.prog 1 = ⟨.func, [.nilFunc], [], 0, 0, false, 0, 8⟩ := by kernel_rfl
theorem y2 : tyOf Tryz.prog 2 = ⟨(.int .i64), [(.int .i64 0)], [], 0, 0, false, 0, 8⟩ := by kernel_rfl
theorem y3 : tyOf Tryz.prog 3 = ⟨(.int .i64), [(.int .i64 0)], [], 0, 0, false, 0, 8⟩ := by kernel_rfl
theorem y4 : tyOf Tryz.prog 4 = ⟨.bool, [(.bool false)], [], 0, 0, false, 0, 1⟩ := by kernel_rfl
theorem y5 : tyOf Tryz.prog 5 = ⟨(.int .u8), [(.int .u8 0)], [], 0, 0, false, 0, 1⟩ := by kernel_rfl
theorem y6 : tyOf Tryz.prog 6 = ⟨(.int .u8), [(.int .u8 0)], [], 0, 0, false, 0, 1⟩ := by kernel_rfl
theorem y7 : tyOf Tryz.prog 7 = ⟨.struct, [(.int .i64 0), (.int .i64 0), (.bool false), (.int .u8 0)], [(0, 1, false), (1, 1, false), (2, 1, false), (3, 1, false)], 0, 0, true, 0, 24⟩ := by kernel_rfl
theorem y8 : tyOf Tryz.prog 8 = ⟨.struct, [(.int .i64 0), (.int .i64 0), (.bool false), (.int .u8 0)], [(0, 1, false), (1, 1, false), (2, 1, false), (3, 1, false)], 0, 0, true, 0, 24⟩ := by kernel_rfl
theorem y9 : tyOf Tryz.prog 9 = ⟨.str, [(.string ⟨#[]⟩)], [], 0, 0, false, 0, 16⟩ := by kernel_rfl
theorem y10 : tyOf Tryz.prog 10 = ⟨.str, [(.string ⟨#[]⟩)], [], 0, 0, false, 0, 16⟩ := by kernel_rfl
theorem y11 : tyOf Tryz.prog 11 = ⟨.str, [(.string ⟨#[]⟩)], [], 0, 0, false, 0, 16⟩ := by kernel_rfl
theorem y12 : tyOf Tryz.prog 12 = ⟨(.int .u64), [(.int .u64 0)], [], 0, 0, false, 0, 8⟩ := by kernel_rfl
theorem y13 : tyOf Tryz.prog 13 = ⟨.struct, [(.string ⟨#[]⟩), (.int .u64 0)], [(0, 1, false), (1, 1, false)], 0, 0, false, 0, 24⟩ := by kernel_rfl
theorem y14 : tyOf Tryz.prog 14 = ⟨.struct, [(.string ⟨#[]⟩), (.int .u64 0)], [(0, 1, false), (1, 1, false)], 0, 0, false, 0, 24⟩ := by kernel_rfl
theorem y15 : tyOf Tryz.prog 15 = ⟨.ptr, [(.pointer none)], [], 178, 0, false, 0, 8⟩ := by kernel_rfl
theorem y16 : tyOf Tryz.prog 16 = ⟨.ptr, [(.pointer none)], [], 181, 0, false, 0, 8⟩ := by kernel_rfl
theorem y17 : tyOf Tryz.prog 17 = ⟨.ptr, [(.pointer none)], [], 189, 0, false, 0, 8⟩ := by kernel_rfl
theorem y18 : tyOf Tryz.prog 18 = ⟨.struct, [(.pointer none)], [(0, 1, false)], 0, 0, false, 0, 8⟩ := by kernel_rfl
theorem y19 : tyOf Tryz.prog 19 = ⟨.struct, [(.pointer none)], [(0, 1, false)], 0, 0, false, 0, 8⟩ := by kernel_rfl
theorem y20 : tyOf Tryz.prog 20 = ⟨.iface, [.nilIface], [], 0, 0, false, 0, 16⟩ := by kernel_rfl
theorem y21 : tyOf Tryz.prog 21 = ⟨(.int .i32), [(.int .i32 0)], [], 0, 0, false, 0, 4⟩ := by kernel_rfl
theorem y22 : tyOf Tryz.prog 22 = ⟨.slice, [(.slice none 0 0)], [], 9, 1, false, 0, 24⟩ := by kernel_rfl
theorem y23 : tyOf Tryz.prog 23 = ⟨.slice, [(.slice none 0 0)], [], 39, 2, true, 0, 24⟩ := by kernel_rfl
theorem y24 : tyOf Tryz.prog 24 = ⟨.slice, [(.slice none 0 0)], [], 44, 2, true, 0, 24⟩ := by kernel_rfl
theorem y25 : tyOf Tryz.prog 25 = ⟨.slice, [(.slice none 0 0)], [], 41, 6, true, 0, 24⟩ := by kernel_rfl
theorem y26 : tyOf Tryz.prog 26 = ⟨.slice, [(.slice none 0 0)], [], 77, 3, true, 0, 24⟩ := by kernel_rfl
theorem y27 : tyOf Tryz.prog 27 = ⟨.struct, [(.slice none 0 0), (.slice none 0 0), (.slice none 0 0), (.int .i64 0), (.int .i64 0), (.slice none 0 0), (.slice none 0 0), (.slice none 0 0), (.slice none 0 0), (.slice none 0 0), (.slice none 0 0)], [(0, 1, false), (1, 1, false), (2, 1, false), (3, 1, false), (4, 1, false), (5, 1, false), (6, 1, false), (7, 1, false), (8, 1, false), (9, 1, false), (10, 1, false)], 0, 0, false, 0, 232⟩ := by kernel_rfl
theorem y28 : tyOf Tryz.prog 28 = ⟨.struct, [(.slice none 0 0), (.slice none 0 0), (.slice none 0 0), (.int .i64 0), (.int .i64 0), (.slice none 0 0), (.slice none 0 0), (.slice none 0 0), (.slice none 0 0), (.slice none 0 0), (.slice none 0 0)], [(0, 1, false), (1, 1, false), (2, 1, false), (3, 1, false), (4, 1, false), (5, 1, false), (6, 1, false), (7, 1, false), (8, 1, false), (9, 1, false), (10, 1, false)], 0, 0, false, 0, 232⟩ := by kernel_rfl
theorem y29 : tyOf Tryz.prog 29 = ⟨.func, [.nilFunc], [], 0, 0, false, 0, 8⟩ := by kernel_rfl
theorem y30 : tyOf Tryz.prog 30 = ⟨.func, [.nilFunc], [], 0, 0, false, 0, 8⟩ := by kernel_rfl
theorem y31 : tyOf Tryz.prog 31 = ⟨.slice, [(.slice none 0 0)], [], 22, 1, false, 0, 24⟩ := by kernel_rfl
theorem y32 : tyOf Tryz.prog 32 = ⟨(.int .i64), [(.int .i64 0)], [], 0, 0, false, 0, 8⟩ := by kernel_rfl
theorem y34 : tyOf Tryz.prog 34 = ⟨.func, [.nilFunc], [], 0, 0, false, 0, 8⟩ := by kernel_rfl
theorem y35 : tyOf Tryz.prog 35 = ⟨.func, [.nilFunc], [], 0, 0, false, 0, 8⟩ := by kernel_rfl
theorem y36 : tyOf Tryz.prog 36 = ⟨.func, [.nilFunc], [], 0, 0, false, 0, 8⟩ := by kernel_rfl
theorem y37 : tyOf Tryz.prog 37 = ⟨.func, [.nilFunc], [], 0, 0, false, 0, 8⟩ := by kernel_rfl
theorem y38 : tyOf Tryz.prog 38 = ⟨.struct, [(.int .i64 0), (.int .i64 0)], [(0, 1, false), (1, 1, false)], 0, 0, true, 0, 16⟩ := by kernel_rfl
theorem y39 : tyOf Tryz.prog 39 = ⟨.struct, [(.int .i64 0), (.int .i64 0)], [(0, 1, false), (1, 1, false)], 0, 0, true, 0, 16⟩ := by kernel_rfl
theorem y40 : tyOf Tryz.prog 40 = ⟨.struct, [(.int .i64 0), (.int .i64 0), (.int .i64 0), (.int .i64 0), (.string ⟨#[]⟩), (.string ⟨#[]⟩)], [(0, 1, false), (1, 1, false), (2, 1, false), (3, 1, false), (4, 1, false), (5, 1, false)], 0, 0, true, 0, 64⟩ := by kernel_rfl
theorem y41 : tyOf Tryz.prog 41 = ⟨.struct, [(.int .i64 0), (.int .i64 0), (.int .i64 0), (.int .i64 0), (.string ⟨#[]⟩), (.string ⟨#[]⟩)], [(0, 1, false), (1, 1, false), (2, 1, false), (3, 1, false), (4, 1, false), (5, 1, false)], 0, 0, true, 0, 64⟩ := by kernel_rfl
theorem y42 : tyOf Tryz.prog 42 = ⟨.func, [.nilFunc], [], 0, 0, false, 0, 8⟩ := by kernel_rfl
theorem y43 : tyOf Tryz.prog 43 = ⟨.struct, [(.int .i64 0), (.slice none 0 0)], [(0, 1, false), (1, 1, false)], 0, 0, false, 0, 32⟩ := by kernel_rfl
theorem y44 : tyOf Tryz.prog 44 = ⟨.struct, [(.int .i64 0), (.slice none 0 0)], [(0, 1, false), (1, 1, false)], 0, 0, false, 0, 32⟩ := by kernel_rfl
theorem y45 : tyOf Tryz.prog 45 = ⟨.ptr, [(.pointer none)], [], 102, 0, false, 0, 8⟩ := by kernel_rfl
theorem y46 : tyOf Tryz.prog 46 = ⟨.func, [.nilFunc], [], 0, 0, false, 0, 8⟩ := by kernel_rfl
theorem y47 : tyOf Tryz.prog 47 = ⟨.func, [.nilFunc], [], 0, 0, false, 0, 8⟩ := by kernel_rfl
theorem y49 : tyOf Tryz.prog 49 = ⟨.func, [.nilFunc], [], 0, 0, false, 0, 8⟩ := by kernel_rfl
theorem y50 : tyOf Tryz.prog 50 = ⟨.iface, [.nilIface], [], 0, 0, false, 0, 16⟩ := by kernel_rfl
theorem y51 : tyOf Tryz.prog 51 = ⟨.iface, [.nilIface], [], 0, 0, false, 0, 16⟩ := by kernel_rfl
theorem y52 : tyOf Tryz.prog 52 = ⟨.func, [.nilFunc], [], 0, 0, false, 0, 8⟩ := by kernel_rfl
theorem y53 : tyOf Tryz.prog 53 = ⟨.func, [.nilFunc], [], 0, 0, false, 0, 8⟩ := by kernel_rfl
theorem y54 : tyOf Tryz.prog 54 = ⟨.struct, [(.int .i64 0), (.int .i64 0)], [(0, 2, true)], 0, 0, false, 0, 16⟩ := by kernel_rfl
theorem y55 : tyOf Tryz.prog 55 = ⟨.struct, [(.int .i64 0), (.int .i64 0)], [(0, 2, true)], 0, 0, false, 0, 16⟩ := by kernel_rfl
theorem y56 : tyOf Tryz.prog 56 = ⟨.func, [.nilFunc], [], 0, 0, false, 0, 8⟩ := by kernel_rfl
theorem y57 : tyOf Tryz.prog 57 = ⟨.str, [(.string ⟨#[]⟩)], [], 0, 0, false, 0, 16⟩ := by kernel_rfl
theorem y58 : tyOf Tryz.prog 58 = ⟨.func, [.nilFunc], [], 0, 0, false, 0, 8⟩ := by kernel_rfl
theorem y59 : tyOf Tryz.prog 59 = ⟨.func, [.nilFunc], [], 0, 0, false, 0, 8⟩ := by kernel_rfl
theorem y60 : tyOf Tryz.prog 60 = ⟨.func, [.nilFunc], [], 0, 0, false, 0, 8⟩ := by kernel_rfl
theorem y61 : tyOf Tryz.prog 61 = ⟨.func, [.nilFunc], [], 0, 0, false, 0, 8⟩ := by kernel_rfl
theorem y62 : tyOf Tryz.prog 62 = ⟨.func, [.nilFunc], [], 0, 0, false, 0, 8⟩ := by kernel_rfl
theorem y64 : tyOf Tryz.prog 64 = ⟨.func, [.nilFunc], [], 0, 0, false, 0, 8⟩ := by kernel_rfl
theorem y65 : tyOf Tryz.prog 65 = ⟨.func, [.nilFunc], [], 0, 0, false, 0, 8⟩ := by kernel_rfl
theorem y66 : tyOf Tryz.prog 66 = ⟨.func, [.nilFunc], [], 0, 0, false, 0, 8⟩ := by kernel_rfl
theorem y67 : tyOf Tryz.prog 67 = ⟨.slice, [(.slice none 0 0)], [], 32, 1, false, 0, 24⟩ := by kernel_rfl
theorem y68 : tyOf Tryz.prog 68 = ⟨.slice, [(.slice none 0 0)], [], 3, 1, false, 0, 24⟩ := by kernel_rfl
theorem y69 : tyOf Tryz.prog 69 = ⟨.func, [.nilFunc], [], 0, 0, false, 0, 8⟩ := by kernel_rfl
theorem y70 : tyOf Tryz.prog 70 = ⟨.func, [.nilFunc], [], 0, 0, false, 0, 8⟩ := by kernel_rfl
theorem y71 : tyOf Tryz.prog 71 = ⟨.func, [.nilFunc], [], 0, 0, false, 0, 8⟩ := by kernel_rfl
theorem y72 : tyOf Tryz.prog 72 = ⟨.func, [.nilFunc], [], 0, 0, false, 0, 8⟩ := by kernel_rfl
theorem y73 : tyOf Tryz.prog 73 = ⟨.func, [.nilFunc], [], 0, 0, false, 0, 8⟩ := by kernel_rfl
theorem y74 : tyOf Tryz.prog 74 = ⟨.func, [.nilFunc], [], 0, 0, false, 0, 8⟩ := by kernel_rfl
theorem y75 : tyOf Tryz.prog 75 = ⟨.func, [.nilFunc], [], 0, 0, false, 0, 8⟩ := by kernel_rfl
theorem y76 : tyOf Tryz.prog 76 = ⟨.struct, [(.int .i64 0), (.int .i64 0), (.string ⟨#[]⟩)], [(0, 1, false), (1, 1, false), (2, 1, false)], 0, 0, true, 0, 32⟩ := by kernel_rfl
theorem y77 : tyOf Tryz.prog 77 = ⟨.struct, [(.int .i64 0), (.int .i64 0), (.string ⟨#[]⟩)], [(0, 1, false), (1, 1, false), (2, 1, false)], 0, 0, true, 0, 32⟩ := by kernel_rfl
theorem y78 : tyOf Tryz.prog 78 = ⟨.func, [.nilFunc], [], 0, 0, false, 0, 8⟩ := by kernel_rfl
theorem y79 : tyOf Tryz.prog 79 = ⟨.func, [.nilFunc], [], 0, 0, false, 0, 8⟩ := by kernel_rfl
theorem y80 : tyOf Tryz.prog 80 = ⟨.func, [.nilFunc], [], 0, 0, false, 0, 8⟩ := by kernel_rfl
theorem y81 : tyOf Tryz.prog 81 = ⟨.func, [.nilFunc], [], 0, 0, false, 0, 8⟩ := by kernel_rfl
theorem y82 : tyOf Tryz.prog 82 = ⟨.func, [.nilFunc], [], 0, 0, false, 0, 8⟩ := by kernel_rfl
theorem y83 : tyOf Tryz.prog 83 = ⟨.func, [.nilFunc], [], 0, 0, false, 0, 8⟩ := by kernel_rfl
theorem y84 : tyOf Tryz.prog 84 = ⟨.func, [.nilFunc], [], 0, 0, false, 0, 8⟩ := by kernel_rfl
theorem y85 : tyOf Tryz.prog 85 = ⟨.func, [.nilFunc], [], 0, 0, false, 0, 8⟩ := by kernel_rfl
theorem y86 : tyOf Tryz.prog 86 = ⟨.func, [.nilFunc], [], 0, 0, false, 0, 8⟩ := by kernel_rfl
theorem y87 : tyOf Tryz.prog 87 = ⟨.func, [.nilFunc], [], 0, 0, false, 0, 8⟩ := by kernel_rfl
theorem y88 : tyOf Tryz.prog 88 = ⟨.func, [.nilFunc], [], 0, 0, false, 0, 8⟩ := by kernel_rfl
theorem y89 : tyOf Tryz.prog 89 = ⟨.func, [.nilFunc], [], 0, 0, false, 0, 8⟩ := by kernel_rfl
theorem y90 : tyOf Tryz.prog 90 = ⟨.func, [.nilFunc], [], 0, 0, false, 0, 8⟩ := by kernel_rfl
theorem y91 : tyOf Tryz.prog 91 = ⟨.func, [.nilFunc], [], 0, 0, false, 0, 8⟩ := by kernel_rfl
theorem y92 : tyOf Tryz.prog 92 = ⟨.func, [.nilFunc], [], 0, 0, false, 0, 8⟩ := by kernel_rfl
theorem y93 : tyOf Tryz.prog 93 = ⟨.func, [.nilFunc], [], 0, 0, false, 0, 8⟩ := by kernel_rfl
theorem y94 : tyOf Tryz.prog 94 = ⟨.map, [(.map none)], [], 3, 0, false, 39, 8⟩ := by kernel_rfl
theorem y95 : tyOf Tryz.prog 95 = ⟨.func, [.nilFunc], [], 0, 0, false, 0, 8⟩ := by kernel_rfl
theorem y96 : tyOf Tryz.prog 96 = ⟨.map, [(.map none)], [], 9, 0, false, 39, 8⟩ := by kernel_rfl
theorem y97 : tyOf Tryz.prog 97 = ⟨.func, [.nilFunc], [], 0, 0, false, 0, 8⟩ := by kernel_rfl
theorem y98 : tyOf Tryz.prog 98 = ⟨.map, [(.map none)], [], 22, 0, false, 3, 8⟩ := by kernel_rfl
theorem y99 : tyOf Tryz.prog 99 = ⟨.func, [.nilFunc], [], 0, 0, false, 0, 8⟩ := by kernel_rfl
theorem y100 : tyOf Tryz.prog 100 = ⟨.map, [(.map none)], [], 25, 0, false, 39, 8⟩ := by kernel_rfl
theorem y101 : tyOf Tryz.prog 101 = ⟨.struct, [(.slice none 0 0), (.slice none 0 0), (.slice none 0 0), (.int .i64 0), (.int .i64 0), (.slice none 0 0), (.slice none 0 0), (.slice none 0 0), (.slice none 0 0), (.slice none 0 0), (.slice none 0 0), (.slice none 0 0), (.map none), (.map none), (.map none), (.map none), (.map none), (.map none), (.map none)], [(0, 11, true), (11, 1, false), (12, 1, false), (13, 1, false), (14, 1, false), (15, 1, false), (16, 1, false), (17, 1, false), (18, 1, false)], 0, 0, false, 0, 312⟩ := by kernel_rfl
theorem y102 : tyOf Tryz.prog 102 = ⟨.struct, [(.slice none 0 0), (.slice none 0 0), (.slice none 0 0), (.int .i64 0), (.int .i64 0), (.slice none 0 0), (.slice none 0 0), (.slice none 0 0), (.slice none 0 0), (.slice none 0 0), (.slice none 0 0), (.slice none 0 0), (.map none), (.map none), (.map none), (.map none), (.map none), (.map none), (.map none)], [(0, 11, true), (11, 1, false), (12, 1, false), (13, 1, false), (14, 1, false), (15, 1, false), (16, 1, false), (17, 1, false), (18, 1, false)], 0, 0, false, 0, 312⟩ := by kernel_rfl
theorem y103 : tyOf Tryz.prog 103 = ⟨.func, [.nilFunc], [], 0, 0, false, 0, 8⟩ := by kernel_rfl
theorem y104 : tyOf Tryz.prog 104 = ⟨.func, [.nilFunc], [], 0, 0, false, 0, 8⟩ := by kernel_rfl
theorem y105 : tyOf Tryz.prog 105 = ⟨.func, [.nilFunc], [], 0, 0, false, 0, 8⟩ := by kernel_rfl
theorem y106 : tyOf Tryz.prog 106 = ⟨.map, [(.map none)], [], 3, 0, false, 3, 8⟩ := by kernel_rfl
theorem y107 : tyOf Tryz.prog 107 = ⟨.func, [.nilFunc], [], 0, 0, false, 0, 8⟩ := by kernel_rfl
theorem y108 : tyOf Tryz.prog 108 = ⟨.func, [.nilFunc], [], 0, 0, false, 0, 8⟩ := by kernel_rfl
theorem y109 : tyOf Tryz.prog 109 = ⟨.func, [.nilFunc], [], 0, 0, false, 0, 8⟩ := by kernel_rfl
theorem y110 : tyOf Tryz.prog 110 = ⟨.func, [.nilFunc], [], 0, 0, false, 0, 8⟩ := by kernel_rfl
theorem y111 : tyOf Tryz.prog 111 = ⟨.struct, [(.int .i64 0)], [(0, 1, false)], 0, 0, true, 0, 8⟩ := by kernel_rfl
theorem y112 : tyOf Tryz.prog 112 = ⟨.struct, [(.int .i64 0)], [(0, 1, false)], 0, 0, true, 0, 8⟩ := by kernel_rfl
theorem y113 : tyOf Tryz.prog 113 = ⟨.struct, [(.int .i64 0)], [(0, 1, false)], 0, 0, true, 0, 8⟩ := by kernel_rfl
theorem y114 : tyOf Tryz.prog 114 = ⟨.struct, [(.int .i64 0)], [(0, 1, false)], 0, 0, true, 0, 8⟩ := by kernel_rfl
theorem y115 : tyOf Tryz.prog 115 = ⟨.func, [.nilFunc], [], 0, 0, false, 0, 8⟩ := by kernel_rfl
theorem y116 : tyOf Tryz.prog 116 = ⟨.func, [.nilFunc], [], 0, 0, false, 0, 8⟩ := by kernel_rfl
theorem y117 : tyOf Tryz.prog 117 = ⟨.func, [.nilFunc], [], 0, 0, false, 0, 8⟩ := by kernel_rfl
theorem y118 : tyOf Tryz.prog 118 = ⟨.func, [.nilFunc], [], 0, 0, false, 0, 8⟩ := by kernel_rfl
theorem y119 : tyOf Tryz.prog 119 = ⟨.func, [.nilFunc], [], 0, 0, false, 0, 8⟩ := by kernel_rfl
theorem y120 : tyOf Tryz.prog 120 = ⟨.func, [.nilFunc], [], 0, 0, false, 0, 8⟩ := by kernel_rfl
theorem y121 : tyOf Tryz.prog 121 = ⟨.func, [.nilFunc], [], 0, 0, false, 0, 8⟩ := by kernel_rfl
theorem y122 : tyOf Tryz.prog 122 = ⟨.map, [(.map none)], [], 3, 0, false, 9, 8⟩ := by kernel_rfl
theorem y123 : tyOf Tryz.prog 123 = ⟨.struct, [(.int .i64 0), (.int .i64 0)], [(0, 1, false), (1, 1, false)], 0, 0, true, 0, 16⟩ := by kernel_rfl
theorem y124 : tyOf Tryz.prog 124 = ⟨.func, [.nilFunc], [], 0, 0, false, 0, 8⟩ := by kernel_rfl
theorem y125 : tyOf Tryz.prog 125 = ⟨.func, [.nilFunc], [], 0, 0, false, 0, 8⟩ := by kernel_rfl
theorem y126 : tyOf Tryz.prog 126 = ⟨.func, [.nilFunc], [], 0, 0, false, 0, 8⟩ := by kernel_rfl
theorem y127 : tyOf Tryz.prog 127 = ⟨.func, [.nilFunc], [], 0, 0, false, 0, 8⟩ := by kernel_rfl
theorem y128 : tyOf Tryz.prog 128 = ⟨.func, [.nilFunc], [], 0, 0, false, 0, 8⟩ := by kernel_rfl
theorem y129 : tyOf Tryz.prog 129 = ⟨.func, [.nilFunc], [], 0, 0, false, 0, 8⟩ := by kernel_rfl
theorem y130 : tyOf Tryz.prog 130 = ⟨.func, [.nilFunc], [], 0, 0, false, 0, 8⟩ := by kernel_rfl
theorem y131 : tyOf Tryz.prog 131 = ⟨.func, [.nilFunc], [], 0, 0, false, 0, 8⟩ := by kernel_rfl
theorem y132 : tyOf Tryz.prog 132 = ⟨.func, [.nilFunc], [], 0, 0, false, 0, 8⟩ := by kernel_rfl
theorem y133 : tyOf Tryz.prog 133 = ⟨.func, [.nilFunc], [], 0, 0, false, 0, 8⟩ := by kernel_rfl
theorem y134 : tyOf Tryz.prog 134 = ⟨.func, [.nilFunc], [], 0, 0, false, 0, 8⟩ := by kernel_rfl
theorem y135 : tyOf Tryz.prog 135 = ⟨.func, [.nilFunc], [], 0, 0, false, 0, 8⟩ := by kernel_rfl
theorem y136 : tyOf Tryz.prog 136 = ⟨.func, [.nilFunc], [], 0, 0, false, 0, 8⟩ := by kernel_rfl
theorem y137 : tyOf Tryz.prog 137 = ⟨.func, [.nilFunc], [], 0, 0, false, 0, 8⟩ := by kernel_rfl
theorem y138 : tyOf Tryz.prog 138 = ⟨.str, [(.string ⟨#[]⟩)], [], 0, 0, false, 0, 16⟩ := by kernel_rfl
theorem y139 : tyOf Tryz.prog 139 = ⟨.func, [.nilFunc], [], 0, 0, false, 0, 8⟩ := by kernel_rfl
theorem y140 : tyOf Tryz.prog 140 = ⟨.func, [.nilFunc], [], 0, 0, false, 0, 8⟩ := by kernel_rfl
theorem y141 : tyOf Tryz.prog 141 = ⟨.func, [.nilFunc], [], 0, 0, false, 0, 8⟩ := by kernel_rfl
theorem y142 : tyOf Tryz.prog 142 = ⟨.func, [.nilFunc], [], 0, 0, false, 0, 8⟩ := by kernel_rfl
theorem y143 : tyOf Tryz.prog 143 = ⟨.struct, [(.slice none 0 0), (.slice none 0 0)], [(0, 1, false), (1, 1, false)], 0, 0, false, 0, 48⟩ := by kernel_rfl
theorem y144 : tyOf Tryz.prog 144 = ⟨.struct, [(.slice none 0 0), (.slice none 0 0)], [(0, 1, false), (1, 1, false)], 0, 0, false, 0, 48⟩ := by kernel_rfl
theorem y145 : tyOf Tryz.prog 145 = ⟨.func, [.nilFunc], [], 0, 0, false, 0, 8⟩ := by kernel_rfl
theorem y146 : tyOf Tryz.prog 146 = ⟨.func, [.nilFunc], [], 0, 0, false, 0, 8⟩ := by kernel_rfl
theorem y147 : tyOf Tryz.prog 147 = ⟨.func, [.nilFunc], [], 0, 0, false, 0, 8⟩ := by kernel_rfl
theorem y148 : tyOf Tryz.prog 148 = ⟨.func, [.nilFunc], [], 0, 0, false, 0, 8⟩ := by kernel_rfl
theorem y149 : tyOf Tryz.prog 149 = ⟨.slice, [(.slice none 0 0)], [], 24, 1, false, 0, 24⟩ := by kernel_rfl
theorem y150 : tyOf Tryz.prog 150 = ⟨.func, [.nilFunc], [], 0, 0, false, 0, 8⟩ := by kernel_rfl
theorem y151 : tyOf Tryz.prog 151 = ⟨.slice, [(.slice none 0 0)], [], 26, 1, false, 0, 24⟩ := by kernel_rfl
theorem y152 : tyOf Tryz.prog 152 = ⟨.func, [.nilFunc], [], 0, 0, false, 0, 8⟩ := by kernel_rfl
theorem y153 : tyOf Tryz.prog 153 = ⟨.func, [.nilFunc], [], 0, 0, false, 0, 8⟩ := by kernel_rfl
theorem y154 : tyOf Tryz.prog 154 = ⟨.func, [.nilFunc], [], 0, 0, false, 0, 8⟩ := by kernel_rfl
theorem y155 : tyOf Tryz.prog 155 = ⟨.slice, [(.slice none 0 0)], [], 5, 1, false, 0, 24⟩ := by kernel_rfl
theorem y156 : tyOf Tryz.prog 156 = ⟨.func, [.nilFunc], [], 0, 0, false, 0, 8⟩ := by kernel_rfl
theorem y157 : tyOf Tryz.prog 157 = ⟨.func, [.nilFunc], [], 0, 0, false, 0, 8⟩ := by kernel_rfl
theorem y158 : tyOf Tryz.prog 158 = ⟨.func, [.nilFunc], [], 0, 0, false, 0, 8⟩ := by kernel_rfl
theorem y159 : tyOf Tryz.prog 159 = ⟨(.int .u64), [(.int .u64 0)], [], 0, 0, false, 0, 8⟩ := by kernel_rfl
theorem y160 : tyOf Tryz.prog 160 = ⟨.array, [(.int .u8 0), (.int .u8 0), (.int .u8 0), (.int .u8 0), (.int .u8 0), (.int .u8 0), (.int .u8 0), (.int .u8 0), (.int .u8 0), (.int .u8 0), (.int .u8 0), (.int .u8 0), (.int .u8 0), (.int .u8 0), (.int .u8 0), (.int .u8 0), (.int .u8 0), (.int .u8 0), (.int .u8 0), (.int .u8 0), (.int .u8 0), (.int .u8 0), (.int .u8 0), (.int .u8 0)], [], 5, 1, false, 24, 24⟩ := by kernel_rfl
theorem y161 : tyOf Tryz.prog 161 = ⟨(.int .u64), [(.int .u64 0)], [], 0, 0, false, 0, 8⟩ := by kernel_rfl
theorem y162 : tyOf Tryz.prog 162 = ⟨.func, [.nilFunc], [], 0, 0, false, 0, 8⟩ := by kernel_rfl
theorem y163 : tyOf Tryz.prog 163 = ⟨.func, [.nilFunc], [], 0, 0, false, 0, 8⟩ := by kernel_rfl
theorem y165 : tyOf Tryz.prog 165 = ⟨.func, [.nilFunc], [], 0, 0, false, 0, 8⟩ := by kernel_rfl
theorem y166 : tyOf Tryz.prog 166 = ⟨(.int .u32), [(.int .u32 0)], [], 0, 0, false, 0, 4⟩ := by kernel_rfl
theorem y168 : tyOf Tryz.prog 168 = ⟨.func, [.nilFunc], [], 0, 0, false, 0, 8⟩ := by kernel_rfl
theorem y169 : tyOf Tryz.prog 169 = ⟨.func, [.nilFunc], [], 0, 0, false, 0, 8⟩ := by kernel_rfl
theorem y170 : tyOf Tryz.prog 170 = ⟨.array, [(.int .u64 0), (.int .u64 0), (.int .u64 0), (.int .u64 0), (.int .u64 0), (.int .u64 0), (.int .u64 0), (.int .u64 0), (.int .u64 0), (.int .u64 0), (.int .u64 0), (.int .u64 0), (.int .u64 0), (.int .u64 0), (.int .u64 0), (.int .u64 0), (.int .u64 0), (.int .u64 0), (.int .u64 0), (.int .u64 0)], [], 161, 1, false, 20, 160⟩ := by kernel_rfl
theorem y171 : tyOf Tryz.prog 171 = ⟨.array, [(.int .u8 0), (.int .u8 0), (.int .u8 0), (.int .u8 0), (.int .u8 0), (.int .u8 0), (.int .u8 0), (.int .u8 0), (.int .u8 0), (.int .u8 0), (.int .u8 0), (.int .u8 0), (.int .u8 0), (.int .u8 0), (.int .u8 0), (.int .u8 0), (.int .u8 0), (.int .u8 0), (.int .u8 0), (.int .u8 0), (.int .u8 0), (.int .u8 0), (.int .u8 0), (.int .u8 0), (.int .u8 0), (.int .u8 0), (.int .u8 0), (.int .u8 0), (.int .u8 0), (.int .u8 0), (.int .u8 0), (.int .u8 0), (.int .u8 0), (.int .u8 0), (.int .u8 0), (.int .u8 0), (.int .u8 0), (.int .u8 0), (.int .u8 0), (.int .u8 0), (.int .u8 0), (.int .u8 0), (.int .u8 0), (.int .u8 0), (.int .u8 0), (.int .u8 0), (.int .u8 0), (.int .u8 0), (.int .u8 0), (.int .u8 0), (.int .u8 0), (.int .u8 0), (.int .u8 0), (.int .u8 0), (.int .u8 0), (.int .u8 0), (.int .u8 0), (.int .u8 0), (.int .u8 0), (.int .u8 0), (.int .u8 0), (.int .u8 0), (.int .u8 0), (.int .u8 0), (.int .u8 0)], [], 5, 1, false, 65, 65⟩ := by kernel_rfl
theorem y172 : tyOf Tryz.prog 172 = ⟨.func, [.nilFunc], [], 0, 0, false, 0, 8⟩ := by kernel_rfl
theorem y173 : tyOf Tryz.prog 173 = ⟨.func, [.nilFunc], [], 0, 0, false, 0, 8⟩ := by kernel_rfl
theorem y174 : tyOf Tryz.prog 174 = ⟨.array, [(.int .u8 0), (.int .u8 0), (.int .u8 0), (.int .u8 0), (.int .u8 0), (.int .u8 0), (.int .u8 0), (.int .u8 0), (.int .u8 0), (.int .u8 0), (.int .u8 0), (.int .u8 0), (.int .u8 0), (.int .u8 0), (.int .u8 0), (.int .u8 0), (.int .u8 0), (.int .u8 0), (.int .u8 0), (.int .u8 0), (.int .u8 0), (.int .u8 0), (.int .u8 0), (.int .u8 0), (.int .u8 0), (.int .u8 0), (.int .u8 0), (.int .u8 0), (.int .u8 0), (.int .u8 0), (.int .u8 0), (.int .u8 0)], [], 5, 1, false, 32, 32⟩ := by kernel_rfl
theorem y175 : tyOf Tryz.prog 175 = ⟨.array, [(.int .u8 0), (.int .u8 0), (.int .u8 0), (.int .u8 0), (.int .u8 0), (.int .u8 0), (.int .u8 0), (.int .u8 0), (.int .u8 0), (.int .u8 0), (.int .u8 0), (.int .u8 0), (.int .u8 0), (.int .u8 0), (.int .u8 0), (.int .u8 0), (.int .u8 0), (.int .u8 0), (.int .u8 0), (.int .u8 0), (.int .u8 0), (.int .u8 0), (.int .u8 0), (.int .u8 0), (.int .u8 0), (.int .u8 0), (.int .u8 0), (.int .u8 0), (.int .u8 0), (.int .u8 0), (.int .u8 0), (.int .u8 0), (.int .u8 0), (.int .u8 0), (.int .u8 0), (.int .u8 0), (.int .u8 0), (.int .u8 0), (.int .u8 0), (.int .u8 0), (.int .u8 0), (.int .u8 0), (.int .u8 0), (.int .u8 0), (.int .u8 0), (.int .u8 0), (.int .u8 0), (.int .u8 0), (.int .u8 0), (.int .u8 0), (.int .u8 0), (.int .u8 0), (.int .u8 0), (.int .u8 0), (.int .u8 0), (.int .u8 0), (.int .u8 0), (.int .u8 0), (.int .u8 0), (.int .u8 0), (.int .u8 0), (.int .u8 0), (.int .u8 0), (.int .u8 0)], [], 5, 1, false, 64, 64⟩ := by kernel_rfl
theorem y176 : tyOf Tryz.prog 176 = ⟨.func, [.nilFunc], [], 0, 0, false, 0, 8⟩ := by kernel_rfl
theorem y177 : tyOf Tryz.prog 177 = ⟨.struct, [(.pointer none), (.pointer none), (.pointer none), (.string ⟨#[]⟩)], [(0, 1, false), (1, 1, false), (2, 1, false), (3, 1, false)], 0, 0, false, 0, 40⟩ := by kernel_rfl
theorem y178 : tyOf Tryz.prog 178 = ⟨.struct, [(.pointer none), (.pointer none), (.pointer none), (.string ⟨#[]⟩)], [(0, 1, false), (1, 1, false), (2, 1, false), (3, 1, false)], 0, 0, false, 0, 40⟩ := by kernel_rfl
theorem y179 : tyOf Tryz.prog 179 = ⟨.array, [], [], 16, 1, false, 0, 0⟩ := by kernel_rfl
theorem y180 : tyOf Tryz.prog 180 = ⟨.struct, [], [(0, 0, true)], 0, 0, false, 0, 0⟩ := by kernel_rfl
theorem y181 : tyOf Tryz.prog 181 = ⟨.struct, [], [(0, 0, true)], 0, 0, false, 0, 0⟩ := by kernel_rfl
theorem y182 : tyOf Tryz.prog 182 = ⟨(.int .u8), [(.int .u8 0)], [], 0, 0, false, 0, 1⟩ := by kernel_rfl
theorem y183 : tyOf Tryz.prog 183 = ⟨(.int .u8), [(.int .u8 0)], [], 0, 0, false, 0, 1⟩ := by kernel_rfl
theorem y184 : tyOf Tryz.prog 184 = ⟨.func, [.nilFunc], [], 0, 0, false, 0, 8⟩ := by kernel_rfl
theorem y185 : tyOf Tryz.prog 185 = ⟨.ptr, [(.pointer none)], [], 5, 0, false, 0, 8⟩ := by kernel_rfl
theorem y186 : tyOf Tryz.prog 186 = ⟨(.int .i32), [(.int .i32 0)], [], 0, 0, false, 0, 4⟩ := by kernel_rfl
theorem y187 : tyOf Tryz.prog 187 = ⟨(.int .i32), [(.int .i32 0)], [], 0, 0, false, 0, 4⟩ := by kernel_rfl
theorem y188 : tyOf Tryz.prog 188 = ⟨.struct, [(.int .u64 0), (.int .u64 0), (.int .u32 0), (.int .u8 0), (.int .u8 0), (.int .u8 0), (.int .u8 0), .nilFunc, (.pointer none), (.int .i32 0), (.int .i32 0)], [(0, 1, false), (1, 1, false), (2, 1, false), (3, 1, false), (4, 1, false), (5, 1, false), (6, 1, false), (7, 1, false), (8, 1, false), (9, 1, false), (10, 1, false)], 0, 0, false, 0, 48⟩ := by kernel_rfl
theorem y189 : tyOf Tryz.prog 189 = ⟨.struct, [(.int .u64 0), (.int .u64 0), (.int .u32 0), (.int .u8 0), (.int .u8 0), (.int .u8 0), (.int .u8 0), .nilFunc, (.pointer none), (.int .i32 0), (.int .i32 0)], [(0, 1, false), (1, 1, false), (2, 1, false), (3, 1, false), (4, 1, false), (5, 1, false), (6, 1, false), (7, 1, false), (8, 1, false), (9, 1, false), (10, 1, false)], 0, 0, false, 0, 48⟩ := by kernel_rfl
theorem mixed : Tryz.prog.follows .mixedOrders = true := by kernel_rfl
theorem funcs_size : Tryz.prog.funcs.size = 170 := by kernel_rfl
theorem funcs_some (g : Nat) : (Tryz.prog.funcs[g]?).isSome = decide (g < 170) := by
  rw [← funcs_size]
  by_cases h : g < Tryz.prog.funcs.size
  · rw [Array.getElem?_eq_getElem h]; simp [h]
  · rw [Array.getElem?_eq_none (by omega)]; simp [h]
instance fenN : Fen Tryz.prog := ⟨Tryz.prog.globalNamed "strconv.ErrSyntax" = none⟩
theorem tame_eq : tame Tryz.prog = True := eq_true (by show Tryz.prog.globalNamed "strconv.ErrSyntax" = none; kernel_rfl)
attribute [go_sem] y1 y2 y3 y4 y5 y6 y7 y8 y9 y10 y11 y12 y13 y14 y15 y16 y17 y18 y19 y20 y21 y22 y23 y24 y25 y26 y27 y28 y29 y30 y31 y32 y34 y35 y36 y37 y38 y39 y40 y41 y42 y43 y44 y45 y46 y47 y49 y50 y51 y52 y53 y54 y55 y56 y57 y58 y59 y60 y61 y62 y64 y65 y66 y67 y68 y69 y70 y71 y72 y73 y74 y75 y76 y77 y78 y79 y80 y81 y82 y83 y84 y85 y86 y87 y88 y89 y90 y91 y92 y93 y94 y95 y96 y97 y98 y99 y100 y101 y102 y103 y104 y105 y106 y107 y108 y109 y110 y111 y112 y113 y114 y115 y116 y117 y118 y119 y120 y121 y122 y123 y124 y125 y126 y127 y128 y129 y130 y131 y132 y133 y134 y135 y136 y137 y138 y139 y140 y141 y142 y143 y144 y145 y146 y147 y148 y149 y150 y151 y152 y153 y154 y155 y156 y157 y158 y159 y160 y161 y162 y163 y165 y166 y168 y169 y170 y171 y172 y173 y174 y175 y176 y177 y178 y179 y180 y181 y182 y183 y184 y185 y186 y187 y188 y189 funcs_some tame_eq
end Go.Proofs.YtlabdffgcciepaaGreatDoor
namespace Go.Proofs.YtlabdffgcciepaaGreatDoor
open Go.Tn
set_option maxHeartbeats 8000000
set_option maxRecDepth 100000
theorem fc_pairin (a b na nb : Int) : FC Tryz.prog 81 [] [.agg [.int .i64 a, .int .i64 b], .int .i64 na, .int .i64 nb] (.ret (.bool (decide (0 ≤ a ∧ a < na ∧ 0 ≤ b ∧ b < nb)))) := by
  refine fc_M (fn := Tryz.f81) (C := (tab [] [])) (rs := [6]) mixed (by kernel_rfl) (by kernel_rfl) rfl rfl (by kernel_rfl) (by intro ys h; cases h) ?_
  simp +contextual (maxSteps := 5000000) only [go_sem, ↓reduceIte]
theorem fc_isNaN (a : Int) : FC Tryz.prog 112 [] [.int .i64 a] (.ret (.bool false)) := by
  refine fc_M (fn := Tryz.f112) (C := (tab [] [])) (rs := [2]) mixed (by kernel_rfl) (by kernel_rfl) rfl rfl (by kernel_rfl) (by intro ys h; cases h) ?_
  simp +contextual (maxSteps := 5000000) only [go_sem, ↓reduceIte]
def c_isNaN (caps args : List D) : Prop × Out := match caps, args with | [], [.int .i64 _] => (True, .ret (.bool false)) | _, _ => (False, .ret .any)
theorem st_isNaN : StC Tryz.prog 112 c_isNaN := by
  intro caps args; unfold c_isNaN; split
  · exact fun _ => fc_isNaN _
  · exact fun h => h.elim
def cmpI (a b : Int) : Int := if a < b then -1 else if b < a then 1 else 0
theorem fc_cmp (a b : Int) : FC Tryz.prog 91 [] [.int .i64 a, .int .i64 b] (.ret (.int .i64 (cmpI a b))) := by
  refine fc_M (fn := Tryz.f91) (C := (tab [(112, c_isNaN)] [])) (rs := [4]) mixed (by kernel_rfl) (by kernel_rfl) rfl rfl (by kernel_rfl) (by intro ys h; cases h) ?_
  simp +contextual (maxSteps := 5000000) only [go_sem, ↓reduceIte, c_isNaN, st_isNaN]
  unfold cmpI
  split <;> simp
theorem getD_mem {α : Type} {l : List α} {i : Nat} {d : α} (h : i < l.length) : l.getD i d ∈ l := by
  rw [List.getD_eq_getElem?_getD, List.getElem?_eq_getElem h]; exact List.getElem_mem h
theorem fc_by2 (a b c d : Int) (h : InR .i64 (b - d)) : FC Tryz.prog 82 [] [.agg [.int .i64 a, .int .i64 b], .agg [.int .i64 c, .int .i64 d]] (.ret (.int .i64 (b - d))) := by
  refine fc_M (fn := Tryz.f82) (C := (tab [] [])) (rs := [4]) mixed (by kernel_rfl) (by kernel_rfl) rfl rfl (by kernel_rfl) (by intro ys h; cases h) ?_
  simp +contextual (maxSteps := 5000000) only [go_sem, ↓reduceIte]
  exact h
theorem fc_second (a b : Int) : FC Tryz.prog 85 [] [.agg [.int .i64 a, .int .i64 b]] (.ret (.int .i64 b)) := by
  refine fc_M (fn := Tryz.f85) (C := (tab [] [])) (rs := [2]) mixed (by kernel_rfl) (by kernel_rfl) rfl rfl (by kernel_rfl) (by intro ys h; cases h) ?_
  simp +contextual (maxSteps := 5000000) only [go_sem, ↓reduceIte]
def c_pin (caps args : List D) : Prop × Out := match caps, args with | [], [.agg [.int .i64 a, .int .i64 b], .int .i64 na, .int .i64 nb] => (True, .ret (.bool (decide (0 ≤ a ∧ a < na ∧ 0 ≤ b ∧ b < nb)))) | _, _ => (False, .ret .any)
theorem st_pin : StC Tryz.prog 81 c_pin := by
  intro caps args; unfold c_pin; split
  · exact fun _ => fc_pairin _ _ _ _
  · exact fun h => h.elim
def c_by2 (caps args : List D) : Prop × Out := match caps, args with | [], [.agg [.int .i64 _, .int .i64 b], .agg [.int .i64 _, .int .i64 d]] => (InR .i64 (b - d), .ret (.int .i64 (b - d))) | _, _ => (False, .ret .any)
theorem st_by2 : StC Tryz.prog 82 c_by2 := by
  intro caps args; unfold c_by2; split
  · exact fun h => fc_by2 _ _ _ _ h
  · exact fun h => h.elim
def ctM (l : List Int) : List (Int × Int) := l.foldl (fun m k => mup m k (mlk m k + 1)) []
theorem ctM_take {α : Type} (g : α → Int) {l : List α} {i : Nat} {d : α} (h : i < l.length) : ctM ((l.take (i + 1)).map g) = mup (ctM ((l.take i).map g)) (g (l.getD i d)) (mlk (ctM ((l.take i).map g)) (g (l.getD i d)) + 1) := by
  rw [List.take_add_one, List.getElem?_eq_getElem h, List.map_append, ctM, ctM, List.foldl_append, List.getD_eq_getElem?_getD, List.getElem?_eq_getElem h]; rfl
theorem ct_bd {α : Type} (g : α → Int) (k : Int) (l : List α) : ∀ i, i ≤ l.length → 0 ≤ mlk (ctM ((l.take i).map g)) k ∧ mlk (ctM ((l.take i).map g)) k ≤ i
  | 0, _ => by simp [ctM, mlk]
  | i + 1, h => by
    have d : α := l[i]'(by omega)
    obtain ⟨h1, h2⟩ := ct_bd g k l i (by omega)
    rw [ctM_take g (d := d) (by omega), mlk_mup]
    split
    · rename_i e; rw [← e]; exact ⟨by omega, by omega⟩
    · exact ⟨h1, by omega⟩
def inB (na nb : Int) (p : Int × Int) : Prop := 0 ≤ p.1 ∧ p.1 < na ∧ 0 ≤ p.2 ∧ p.2 < nb
instance (na nb : Int) (p : Int × Int) : Decidable (inB na nb p) := by unfold inB; infer_instance
def dnF : List (Int × Int) → Bool
  | [] => false
  | [_] => false
  | p :: q :: r => decide (q.2 < p.2) || dnF (q :: r)
theorem dnF_iff : ∀ ps : List (Int × Int), dnF ps = true ↔ ∃ j, j + 1 < ps.length ∧ (ps.getD (j + 1) (0, 0)).2 < (ps.getD j (0, 0)).2
  | [] => by simp [dnF]
  | [p] => by simp [dnF]
  | p :: q :: r => by
    have ih := dnF_iff (q :: r)
    simp only [dnF, Bool.or_eq_true, decide_eq_true_eq, ih]
    constructor
    · rintro (h | ⟨j, h1, h2⟩)
      · exact ⟨0, by simp, by simpa using h⟩
      · exact ⟨j + 1, by simpa using h1, by simpa using h2⟩
    · rintro ⟨j, h1, h2⟩
      cases j with
      | zero => exact .inl (by simpa using h2)
      | succ j => exact .inr ⟨j, by simpa using h1, by simpa using h2⟩
def chk (ps : List (Int × Int)) (na nb : Int) : Int :=
  if na < 0 ∨ nb < 0 then 1 else if ∃ p ∈ ps, ¬ inB na nb p then 11
  else if (ctM (ps.map (·.1))).length < ps.length ∨ (ctM (ps.map (·.2))).length < ps.length then 10
  else if dnF ps = true then 12 else 0
theorem fc_Check (ps : List (Int × Int)) (na nb : Int) (hb : na < 1000000000) (hb2 : nb < 1000000000) (hl : ps.length < 1000000000) :
    FC Tryz.prog 31 [] [.sl 2 (ps.map eP), .int .i64 na, .int .i64 nb] (.ret (.int .i64 (chk ps na nb))) := by
  refine fc_M (fn := Tryz.f31) (C := (tab [(81, c_pin), (82, c_by2)] [])) (rs := [6]) mixed (by kernel_rfl) (by kernel_rfl) rfl rfl (by kernel_rfl) (by intro ys h; cases h) ?_
  simp +contextual (maxSteps := 5000000) only [go_sem, ↓reduceIte, c_pin, st_pin]
  unfold chk
  split
  · rename_i h1
    split
    · rename_i h2
      rw [if_pos (.inr h2)]
    · rename_i h2
      rw [if_neg (by omega)]
      refine fun _ => M_loopI (fun i : Nat => ⟨[(0, .sl 2 (ps.map eP)), (1, .int .i64 na), (2, .int .i64 nb), (7, .lmap 19), (8, .lmap 20), (21, .sl 2 (ps.map eP)), (22, .int .i64 ps.length), (23, .int .i64 i)],
        [(19, .mp ((ctM ((ps.take i).map (·.1))).map kI) ((ctM ((ps.take i).map (·.1))).map vI) false), (20, .mp ((ctM ((ps.take i).map (·.2))).map kI) ((ctM ((ps.take i).map (·.2))).map vI) false)]⟩) (fun i => ps.length - i) (fun i => i ≤ ps.length ∧ ∀ p ∈ ps.take i, inB na nb p) 0 ?_ ?_
      · simp +contextual (maxSteps := 5000000) only [go_sem, ↓reduceIte, ctM, List.foldl_nil]
        simp
      · intro i hi
        simp +contextual (maxSteps := 5000000) only [go_sem, ↓reduceIte, eP_at, c_pin, st_pin, c_by2, st_by2]
        obtain ⟨hi, hb⟩ := hi
        split
        · rename_i hlt
          split
          · rename_i hno
            rw [if_pos ⟨_, getD_mem (d := (0, 0)) hlt, hno⟩]
          · rename_i hyes
            have hyes' := Classical.not_not.1 hyes
            obtain ⟨c1, c2⟩ := ct_bd (·.1) (ps.getD i (0, 0)).1 ps i hi
            obtain ⟨c3, c4⟩ := ct_bd (·.2) (ps.getD i (0, 0)).2 ps i hi
            refine ⟨inR64 (by omega) (by omega), fun _ => ⟨inR64 (by omega) (by omega), fun _ => ⟨inR64 (by omega) (by omega), fun _ => ⟨i + 1, ⟨by simp, ?_, ?_⟩, by omega, by omega, fun p hp => ?_⟩⟩⟩⟩
            · rw [ctM_take (·.1) (d := (0, 0)) hlt]; exact ⟨rfl, rfl⟩
            · rw [ctM_take (·.2) (d := (0, 0)) hlt]; exact ⟨rfl, rfl⟩
            · rw [List.take_add_one, List.getElem?_eq_getElem hlt] at hp
              rcases List.mem_append.1 hp with hp | hp
              · exact hb p hp
              · simp only [Option.toList_some, List.mem_singleton] at hp
                subst hp
                rw [List.getD_eq_getElem?_getD, List.getElem?_eq_getElem hlt] at hyes'
                exact hyes'
        · rename_i hge
          have ht : ps.take i = ps := List.take_of_length_le (by omega)
          rw [ht] at hb ⊢
          rw [if_neg (show ¬∃ p, p ∈ ps ∧ ¬inB na nb p from fun ⟨p, hp, hn⟩ => hn (hb p hp))]
          intro _
          split
          · rename_i g1
            split
            · rename_i g2
              rw [if_pos (.inr g2)]
            · rename_i g2
              rw [if_neg (by rintro (h | h) <;> contradiction)]
              refine M_loopI (fun i : Nat => ⟨[(0, .sl 2 (ps.map eP)), (55, .sl 2 (ps.map eP)), (56, .int .i64 ps.length), (57, .int .i64 i)], []⟩) (fun i => ps.length - i) (fun i => i ≤ ps.length ∧ ∀ j, j + 1 < i → ¬ (ps.getD (j + 1) (0, 0)).2 < (ps.getD j (0, 0)).2) 0 ?_ ?_
              · simp +contextual (maxSteps := 5000000) only [go_sem, ↓reduceIte]
                simp
              · intro k hk
                obtain ⟨hk, hn⟩ := hk
                by_cases hlt : k < ps.length
                · have hat := eP_at ps (k - 1) (by omega)
                  have hp1 := hb _ (getD_mem (d := (0, 0)) hlt)
                  have hp2 := hb _ (getD_mem (d := (0, 0)) (show k - 1 < ps.length by omega))
                  unfold inB at hp1 hp2
                  simp +contextual (maxSteps := 5000000) only [go_sem, ↓reduceIte, eI_at, eI_set, List.length_set, tn_add, tn_add1, tn_sub, tn_sub1, sh1, sh1b, half_cast, eP_at, hat, hlt, c_by2, st_by2]
                  split
                  · rename_i hk0
                    refine ⟨inR64 (by omega) (by omega), fun _ => ⟨⟨by omega, by omega⟩, fun _ => ⟨inR64 (by omega) (by omega), ?_⟩⟩⟩
                    split
                    · rename_i hd
                      rw [if_pos ((dnF_iff ps).2 ⟨k - 1, by omega, by rw [show k - 1 + 1 = k by omega]; omega⟩)]
                    · rename_i hd
                      refine ⟨inR64 (by omega) (by omega), fun _ => ⟨k + 1, by simp, by omega, by omega, fun j hj => ?_⟩⟩
                      rcases Nat.lt_succ_iff_lt_or_eq.1 hj with h | h
                      · exact hn j h
                      · rw [h, show j = k - 1 by omega]; omega
                  · rename_i hk0
                    refine ⟨inR64 (by omega) (by omega), fun _ => ⟨k + 1, by simp, by omega, by omega, fun j hj => by omega⟩⟩
                · simp +contextual (maxSteps := 5000000) only [go_sem, ↓reduceIte, eI_at, eI_set, List.length_set, tn_add, tn_add1, tn_sub, tn_sub1, sh1, sh1b, half_cast, hlt]
                  have hd : ¬ dnF ps = true := fun h => by
                    obtain ⟨j, h1, h2⟩ := (dnF_iff ps).1 h
                    exact hn j (by omega) h2
                  rw [if_neg hd]
          · rename_i g1
            rw [if_pos (.inl (Classical.not_not.1 g1))]
  · rename_i h1
    rw [if_pos (by omega)]
def c_Check (caps args : List D) : Prop × Out := match caps, args with | [], [.sl 2 rows, .int .i64 na, .int .i64 nb] => ((rows = (rows.map dP).map eP ∧ rows.length < 1000000000) ∧ na < 1000000000 ∧ nb < 1000000000, .ret (.int .i64 (chk (rows.map dP) na nb))) | _, _ => (False, .ret .any)
theorem st_Check : StC Tryz.prog 31 c_Check := by
  intro caps args; unfold c_Check; split
  · rename_i rows na nb
    rintro ⟨⟨h1, h2⟩, h3, h4⟩
    have := fc_Check (rows.map dP) na nb h3 h4 (by simpa using h2)
    rw [← h1] at this
    exact this
  · exact fun h => h.elim
theorem mem_ct (k : Int) (l : List Int) : mlk (ctM l) k = 0 ↔ k ∉ l := by
  have gen : ∀ (l : List Int) (m : List (Int × Int)), (∀ k, 0 ≤ mlk m k) → ((mlk (l.foldl (fun m k => mup m k (mlk m k + 1)) m) k = 0 ↔ mlk m k = 0 ∧ k ∉ l)) := by
    intro l
    induction l with
    | nil => intro m _; simp
    | cons x l ih =>
      intro m hm
      rw [List.foldl_cons, ih _ (fun j => by
        rw [mlk_mup]
        split
        · have := hm x; omega
        · exact hm j), mlk_mup]
      by_cases e : k = x
      · subst e; have := hm k; simp; omega
      · rw [if_neg e]; simp [e]
  have := gen l [] (fun _ => Int.le_refl _)
  refine this.trans ⟨fun h => h.2, fun h => ⟨rfl, h⟩⟩
def rsL (l : List Int) (k : Nat) : List Int := ((List.range k).filter fun i : Nat => decide ((i : Int) ∉ l)).map fun i : Nat => (i : Int)
theorem rsL_succ (l : List Int) (k : Nat) : rsL l (k + 1) = rsL l k ++ if (k : Int) ∉ l then [(k : Int)] else [] := by
  unfold rsL
  rw [List.range_succ, List.filter_append, List.map_append]
  congr 1
  by_cases h : (k : Int) ∈ l <;> simp [h]
theorem rsL_len (l : List Int) (k : Nat) : (rsL l k).length ≤ k := by
  unfold rsL; rw [List.length_map]; exact Nat.le_trans (List.length_filter_le _ _) (by simp)
theorem fc_first (a b : Int) : FC Tryz.prog 84 [] [.agg [.int .i64 a, .int .i64 b]] (.ret (.int .i64 a)) := by
  refine fc_M (fn := Tryz.f84) (C := (tab [] [])) (rs := [2]) mixed (by kernel_rfl) (by kernel_rfl) rfl rfl (by kernel_rfl) (by intro ys h; cases h) ?_
  simp +contextual (maxSteps := 5000000) only [go_sem, ↓reduceIte]
def c_of (q : Int × Int → Int) (caps args : List D) : Prop × Out := match caps, args with | [], [.agg [.int .i64 a, .int .i64 b]] => (True, .ret (.int .i64 (q (a, b)))) | _, _ => (False, .ret .any)
theorem st_first : StC Tryz.prog 84 (c_of (·.1)) := by
  intro caps args; unfold c_of; split
  · exact fun _ => fc_first _ _
  · exact fun h => h.elim
theorem st_second : StC Tryz.prog 85 (c_of (·.2)) := by
  intro caps args; unfold c_of; split
  · exact fun _ => fc_second _ _
  · exact fun h => h.elim
theorem fc_rest (g : Nat) (q : Int × Int → Int) (hg : StC Tryz.prog g (c_of q)) (ps : List (Int × Int)) (n : Int) (hn : n ≤ 1000000000) (hp : ps.length < 1000000000) :
    FC Tryz.prog 83 [] [.sl 2 (ps.map eP), .int .i64 n, .fn g [] []] (.own 3 1 ((rsL (ps.map q) n.toNat).map eI)) := by
  refine fc_M (fn := Tryz.f83) (C := (tab [(g, c_of q)] [])) (rs := [6]) mixed (by kernel_rfl) (by kernel_rfl) rfl rfl (by kernel_rfl) (by intro ys h; cases h) ?_
  simp +contextual (maxSteps := 5000000) only [go_sem, ↓reduceIte, c_of, hg]
  refine fun _ => M_loopI (fun i : Nat => ⟨[(1, .int .i64 n), (2, .fn g [] []), (7, .lmap 12), (13, .sl 2 (ps.map eP)), (14, .int .i64 ps.length), (15, .int .i64 i)], [(12, .mp ((ctM ((ps.take i).map q)).map kI) ((ctM ((ps.take i).map q)).map vI) false)]⟩) (fun i => ps.length - i) (fun i => i ≤ ps.length) 0 ?_ ?_
  · simp +contextual (maxSteps := 5000000) only [go_sem, ↓reduceIte, ctM, List.foldl_nil]
    rfl
  · intro i hi
    simp +contextual (maxSteps := 5000000) only [go_sem, ↓reduceIte, eP_at, c_of, hg]
    split
    · rename_i hlt
      have q12 := ct_bd q (q (ps.getD i (0, 0))) ps i hi
      obtain ⟨q1, q2⟩ : 0 ≤ mlk (ctM (List.map q (List.take i ps))) (q ((ps.getD i (0, 0)).fst, (ps.getD i (0, 0)).snd)) ∧ mlk (ctM (List.map q (List.take i ps))) (q ((ps.getD i (0, 0)).fst, (ps.getD i (0, 0)).snd)) ≤ i := q12
      refine ⟨inR64 (by omega) (by omega), fun _ => ⟨inR64 (by omega) (by omega), fun _ => ⟨i + 1, ⟨by simp, ?_⟩, by omega, by omega⟩⟩⟩
      rw [ctM_take q (d := (0, 0)) hlt]; exact ⟨rfl, rfl⟩
    · have : ps.take i = ps := List.take_of_length_le (by omega)
      rw [this]
      refine M_loopI (fun s : Nat => ⟨[(7, .lmap 12), (10, .vec 38 (rsL (ps.map q) s).length), (27, .int .i64 n.toNat), (28, .int .i64 s)], [(12, .mp ((ctM (ps.map q)).map kI) ((ctM (ps.map q)).map vI) false), (38, .vec 3 1 ((rsL (ps.map q) s).map eI) 0)]⟩) (fun i => n.toNat - i) (fun i => i ≤ n.toNat) 0 ?_ ?_
      · simp +contextual (maxSteps := 5000000) only [go_sem, ↓reduceIte, rsL, List.range_zero, List.filter_nil]
        exact ⟨by omega, rfl⟩
      · intro i hi
        simp +contextual (maxSteps := 5000000) only [go_sem, ↓reduceIte, eI_at, eI_set, List.length_set, tn_add, tn_add1, tn_sub, tn_sub1, sh1, sh1b, half_cast]
        have hl := rsL_len (ps.map q) i
        have hs := rsL_succ (ps.map q) i
        have hmc := mem_ct i (ps.map q)
        split
        · rename_i hlt
          split
          · rename_i h0
            rw [if_pos (hmc.1 h0)] at hs
            refine ⟨by omega, fun _ => ⟨inR64 (by omega) (by omega), fun _ => ⟨i + 1, ⟨⟨by rw [hs]; simp, by simp⟩, by rw [hs]; simp [eI]⟩, by omega, by omega⟩⟩⟩
          · rename_i h0
            rw [if_neg (fun h => h0 (hmc.2 h)), List.append_nil] at hs
            refine ⟨inR64 (by omega) (by omega), fun _ => ⟨i + 1, ⟨⟨by rw [hs], by simp⟩, by rw [hs]⟩, by omega, by omega⟩⟩
        · rename_i hge
          rw [show i = n.toNat by omega]
def qOf (g : Nat) : Int × Int → Int := if g = 84 then (·.1) else (·.2)
def c_rest (caps args : List D) : Prop × Out := match caps, args with | [], [.sl 2 rows, .int .i64 n, .fn g [] []] => (((g = 84 ∨ g = 85) ∧ rows = (rows.map dP).map eP) ∧ n ≤ 1000000000 ∧ rows.length < 1000000000, .own 3 1 ((rsL ((rows.map dP).map (qOf g)) n.toNat).map eI)) | _, _ => (False, .ret .any)
theorem st_rest : StC Tryz.prog 83 c_rest := by
  intro caps args; unfold c_rest; split
  · rename_i rows n g
    rintro ⟨⟨hg, h1⟩, h2, h3⟩
    have hst : StC Tryz.prog g (c_of (qOf g)) := by
      rcases hg with rfl | rfl
      · exact st_first
      · exact st_second
    have := fc_rest g (qOf g) hst (rows.map dP) n h2 (by simpa using h3)
    rw [← h1] at this
    exact this
  · exact fun h => h.elim
theorem fc_RestA (ps : List (Int × Int)) (n : Int) (hn : n ≤ 1000000000) (hp : ps.length < 1000000000) :
    FC Tryz.prog 32 [] [.sl 2 (ps.map eP), .int .i64 n] (.own 3 1 ((rsL (ps.map (·.1)) n.toNat).map eI)) := by
  refine fc_M (fn := Tryz.f32) (C := (tab [(83, c_rest)] [])) (rs := [4]) mixed (by kernel_rfl) (by kernel_rfl) rfl rfl (by kernel_rfl) (by intro ys h; cases h) ?_
  simp +contextual (maxSteps := 5000000) only [go_sem, ↓reduceIte, c_rest, st_rest, dP_eP, qOf]
  exact ⟨hn, hp⟩
def c_RestA (caps args : List D) : Prop × Out := match caps, args with | [], [.sl 2 rows, .int .i64 n] => (rows = (rows.map dP).map eP ∧ n ≤ 1000000000 ∧ rows.length < 1000000000, .own 3 1 ((rsL ((rows.map dP).map (·.1)) n.toNat).map eI)) | _, _ => (False, .ret .any)
theorem st_RestA : StC Tryz.prog 32 c_RestA := by
  intro caps args; unfold c_RestA; split
  · rename_i rows n
    intro h
    obtain ⟨h1, h2, h3⟩ := h
    have := fc_RestA (rows.map dP) n h2 (by simpa using h3)
    rw [← h1] at this
    exact this
  · exact fun h => h.elim
theorem fc_RestB (ps : List (Int × Int)) (n : Int) (hn : n ≤ 1000000000) (hp : ps.length < 1000000000) :
    FC Tryz.prog 33 [] [.sl 2 (ps.map eP), .int .i64 n] (.own 3 1 ((rsL (ps.map (·.2)) n.toNat).map eI)) := by
  refine fc_M (fn := Tryz.f33) (C := (tab [(83, c_rest)] [])) (rs := [4]) mixed (by kernel_rfl) (by kernel_rfl) rfl rfl (by kernel_rfl) (by intro ys h; cases h) ?_
  simp +contextual (maxSteps := 5000000) only [go_sem, ↓reduceIte, c_rest, st_rest, dP_eP, qOf]
  exact ⟨hn, hp⟩
def c_RestB (caps args : List D) : Prop × Out := match caps, args with | [], [.sl 2 rows, .int .i64 n] => (rows = (rows.map dP).map eP ∧ n ≤ 1000000000 ∧ rows.length < 1000000000, .own 3 1 ((rsL ((rows.map dP).map (·.2)) n.toNat).map eI)) | _, _ => (False, .ret .any)
theorem st_RestB : StC Tryz.prog 33 c_RestB := by
  intro caps args; unfold c_RestB; split
  · rename_i rows n
    intro h
    obtain ⟨h1, h2, h3⟩ := h
    have := fc_RestB (rows.map dP) n h2 (by simpa using h3)
    rw [← h1] at this
    exact this
  · exact fun h => h.elim
end Go.Proofs.YtlabdffgcciepaaGreatDoor
namespace Go.Proofs.YtlabdffgcciepaaGreatDoor
open Go.Tn
set_option maxHeartbeats 8000000
set_option maxRecDepth 100000
def mxF (a : Int) : List (Int × Int) → List Int → Int → Int
  | q :: r, n :: ns, acc => mxF a r ns (if a < q.1 then max acc (n + 1) else acc)
  | _, _, acc => acc
def lgF : List (Int × Int) → List Int
  | [] => []
  | p :: r => mxF p.1 r (lgF r) 1 :: lgF r
theorem lgF_len : ∀ l, (lgF l).length = l.length
  | [] => rfl
  | _ :: r => by simp [lgF, lgF_len r]
theorem lgF_drop : ∀ (l : List (Int × Int)) (k : Nat), lgF (l.drop k) = (lgF l).drop k
  | l, 0 => by simp
  | [], k + 1 => by simp [lgF]
  | _ :: r, k + 1 => by simp only [List.drop_succ_cons, lgF]; exact lgF_drop r k
theorem mxF_bd (a : Int) : ∀ (l : List (Int × Int)) (n : List Int) (acc b : Int), 1 ≤ acc → acc ≤ b → (∀ x ∈ n, x + 1 ≤ b) → 1 ≤ mxF a l n acc ∧ mxF a l n acc ≤ b
  | [], _, acc, b, h1, h2, _ => by simp only [mxF]; exact ⟨h1, h2⟩
  | _ :: _, [], acc, b, h1, h2, _ => by simp only [mxF]; exact ⟨h1, h2⟩
  | q :: r, m :: n, acc, b, h1, h2, h3 => by
    have hm := h3 m (by simp)
    simp only [mxF]
    refine mxF_bd a r n _ b ?_ ?_ (fun x hx => h3 x (by simp [hx]))
    · split <;> omega
    · split <;> omega
theorem lgF_bd : ∀ (l : List (Int × Int)), ∀ x ∈ lgF l, 1 ≤ x ∧ x ≤ l.length
  | [], x, h => by simp [lgF] at h
  | p :: r, x, h => by
    simp only [lgF, List.mem_cons] at h
    rcases h with rfl | h
    · refine mxF_bd _ _ _ _ _ (by omega) (by simp only [List.length_cons]; omega) (fun y hy => ?_)
      have := (lgF_bd r y hy).2
      simp only [List.length_cons]; omega
    · obtain ⟨h1, h2⟩ := lgF_bd r x h
      exact ⟨h1, by simp only [List.length_cons]; omega⟩
theorem drop_getD {α : Type} {l : List α} {k : Nat} {d : α} (h : k < l.length) : l.drop k = l.getD k d :: l.drop (k + 1) := by
  rw [List.getD_eq_getElem?_getD, List.getElem?_eq_getElem h, Option.getD_some]; exact List.drop_eq_getElem_cons h
theorem mxF_step (a : Int) {l : List (Int × Int)} {n : List Int} {k : Nat} {acc : Int} (h : k < l.length) (h2 : k < n.length) : mxF a (l.drop k) (n.drop k) acc = mxF a (l.drop (k + 1)) (n.drop (k + 1)) (if a < (l.getD k (0, 0)).1 then max acc (n.getD k 0 + 1) else acc) := by
  rw [drop_getD (d := (0, 0)) h, drop_getD (d := 0) h2]; rfl
theorem mxF_end (a : Int) {l : List (Int × Int)} {n : List Int} {k : Nat} {acc : Int} (h : ¬ k < l.length) : mxF a (l.drop k) (n.drop k) acc = acc := by
  rw [List.drop_eq_nil_of_le (by omega)]; simp [mxF]
theorem lgF_at {l : List (Int × Int)} {j : Nat} (h : j < l.length) : (lgF l).getD j 0 = mxF (l.getD j (0, 0)).1 (l.drop (j + 1)) ((lgF l).drop (j + 1)) 1 := by
  have h1 := lgF_drop l j
  rw [drop_getD (l := l) (d := (0, 0)) h, drop_getD (l := lgF l) (d := 0) (by rw [lgF_len]; exact h)] at h1
  simp only [lgF, List.cons.injEq] at h1
  rw [← h1.1, lgF_drop]
theorem getD_setI {l : List Int} {i k : Nat} {x : Int} (h : i < l.length) : (l.set i x).getD k 0 = if i = k then x else l.getD k 0 := by
  simp only [List.getD_eq_getElem?_getD, List.getElem?_set]
  split
  · rename_i e; subst e; simp [h]
  · rfl
theorem h0nn (n : Nat) : (0 ≤ (n : Int)) = True := eq_true (by omega)
theorem fc_long (l : List (Int × Int)) (hl : l.length < 1000000) : FC Tryz.prog 100 [] [.sl 2 (l.map eP)] (.ret (.sl 1 ((lgF l).map eI))) := by
  refine fc_M (fn := Tryz.f100) (C := (tab [] [])) (rs := [2]) mixed (by kernel_rfl) (by kernel_rfl) rfl rfl (by kernel_rfl) (by intro ys h; cases h) ?_
  have hln := lgF_len l
  simp +contextual (maxSteps := 5000000) only [go_sem, ↓reduceIte, Int.toNat_natCast, h0nn]
  refine fun _ => ⟨by omega, fun _ => ⟨inR64 (by omega) (by omega), fun _ => M_loopI (fun s : Nat × List Int => ⟨[(0, .sl 2 (l.map eP)), (3, .vec 8 l.length), (4, .int .i64 ((s.1 : Int) - 1))], [(8, .vec 3 1 (s.2.map eI) 0)]⟩) (fun s => s.1) (fun s => (s.1 ≤ l.length ∧ s.2.length = l.length) ∧ ∀ k, s.1 ≤ k → s.2.getD k 0 = (lgF l).getD k 0) (l.length, List.replicate l.length 0) ?_ ?_⟩⟩
  · simp +contextual (maxSteps := 5000000) only [go_sem, ↓reduceIte]
    refine ⟨rfl, Nat.le_refl _, fun k hk => ?_⟩
    simp only [List.getD_eq_getElem?_getD, List.getElem?_eq_none (show (List.replicate l.length (0 : Int)).length ≤ k by simpa using hk), List.getElem?_eq_none (show (lgF l).length ≤ k by omega)]
  rintro ⟨i, R⟩ ⟨⟨hi, hR⟩, hk⟩
  simp only at hi hR hk ⊢
  by_cases hp : 0 < i
  · obtain ⟨j, rfl⟩ : ∃ j, i = j + 1 := ⟨i - 1, by omega⟩
    have hj : j < l.length := by omega
    have q1 : ((j + 1 : Nat) : Int) - 1 = (j : Int) := by omega
    have hjR : j < R.length := by omega
    have hc : j < l.length ∧ j < R.length := ⟨hj, hjR⟩
    rw [q1]
    simp +contextual (maxSteps := 5000000) only [go_sem, ↓reduceIte, hj, hjR, hR, eI_at, eI_set, List.length_set, tn_add, tn_add1, tn_sub, tn_sub1, sh1, sh1b, half_cast]
    refine ⟨by omega, fun _ => ⟨inR64 (by omega) (by omega), fun _ => ?_⟩⟩
    refine M_loopI (fun s : Nat × List Int => ⟨[(0, .sl 2 (l.map eP)), (3, .vec 8 l.length), (4, .int .i64 (j : Int)), (5, .int .i64 s.1)], [(8, .vec 3 1 (s.2.map eI) 0)]⟩) (fun s => l.length - s.1) (fun s => ((j < s.1 ∧ s.1 ≤ l.length) ∧ s.2.length = l.length) ∧ (1 ≤ s.2.getD j 0 ∧ s.2.getD j 0 ≤ l.length) ∧ mxF (l.getD j (0, 0)).1 (l.drop s.1) ((lgF l).drop s.1) (s.2.getD j 0) = (lgF l).getD j 0 ∧ ∀ k, j < k → s.2.getD k 0 = (lgF l).getD k 0) (j + 1, R.set j 1) ?_ ?_
    · simp +contextual (maxSteps := 5000000) only [go_sem, ↓reduceIte]
      have e1 : (R.set j 1).getD j 0 = 1 := by rw [getD_setI hjR, if_pos rfl]
      refine ⟨by omega, ⟨by omega, by simpa using hR⟩, ⟨by rw [e1]; omega, by rw [e1]; omega⟩, by rw [e1, ← lgF_at hj], fun k hjk => ?_⟩
      rw [getD_setI hjR, if_neg (by omega)]
      exact hk k (by omega)
    rintro ⟨k, Q⟩ ⟨⟨⟨hjk, hkl⟩, hQ⟩, ⟨hb1, hb2⟩, hmx, hgt⟩
    simp only at hjk hkl hQ hb1 hb2 hmx hgt ⊢
    have hjQ : j < Q.length := by omega
    by_cases hlt : k < l.length
    · have hatk := eP_at l k hlt
      have hatj := eP_at l j hj
      have hkQ : k < Q.length := by omega
      have hvk := eI_at Q k hkQ
      have hvj := eI_at Q j hjQ
      have hst := mxF_step (l.getD j (0, 0)).1 (acc := Q.getD j 0) hlt (n := lgF l) (by omega)
      have hgk := hgt k hjk
      have hbk : (lgF l).getD k 0 ≤ l.length := (lgF_bd l _ (getD_mem (by omega))).2
      have hbk0 : 1 ≤ (lgF l).getD k 0 := (lgF_bd l _ (getD_mem (by omega))).1
      have hbk2 : Q.getD k 0 + 1 ≤ l.length := by
        have h1 := lgF_bd (l.drop k) ((lgF l).getD k 0) (by rw [lgF_drop, drop_getD (d := 0) (by omega)]; simp)
        have h2 : (l.drop k).length = l.length - k := by simp
        omega
      by_cases c1 : (l.getD j (0, 0)).1 < (l.getD k (0, 0)).1
      · rw [if_pos c1] at hst
        simp +contextual (maxSteps := 5000000) only [go_sem, ↓reduceIte, hlt, hatk, hatj, hj, hkQ, hjQ, hvk, hvj, c1, hQ, eI_set]
        refine fun _ => ⟨inR64 (by omega) (by omega), fun _ => ⟨by omega, fun _ => ⟨inR64 (by omega) (by omega), fun _ => ⟨(k + 1, Q.set j (max (Q.getD j 0) (Q.getD k 0 + 1))), ⟨by simp, rfl⟩, by simp only; omega, ⟨⟨by simp only; omega, by simp only; omega⟩, by simpa using hQ⟩, ?_⟩⟩⟩⟩
        have e1 : (Q.set j (max (Q.getD j 0) (Q.getD k 0 + 1))).getD j 0 = max (Q.getD j 0) (Q.getD k 0 + 1) := by rw [getD_setI hjQ, if_pos rfl]
        simp only
        rw [e1]
        refine ⟨⟨by omega, by omega⟩, by rw [← hmx, hst, hgk], fun q hq => ?_⟩
        rw [getD_setI hjQ, if_neg (by omega)]; exact hgt q hq
      · rw [if_neg c1] at hst
        simp +contextual (maxSteps := 5000000) only [go_sem, ↓reduceIte, hlt, hatk, hatj, hj, hkQ, hjQ, hvk, hvj, c1, hQ]
        exact fun _ => ⟨inR64 (by omega) (by omega), fun _ => ⟨(k + 1, Q), ⟨by simp, rfl⟩, by simp only; omega, ⟨⟨by simp only; omega, by simp only; omega⟩, hQ⟩, ⟨hb1, hb2⟩, by rw [← hmx, hst], hgt⟩⟩
    · rw [mxF_end _ hlt] at hmx
      simp +contextual (maxSteps := 5000000) only [go_sem, ↓reduceIte, hlt, hQ]
      refine fun _ => ⟨inR64 (by omega) (by omega), fun _ => ⟨(j, Q), ⟨by simp, rfl⟩, by simp only; omega, ⟨by simp only; omega, hQ⟩, fun q hq => ?_⟩⟩
      rcases Nat.lt_or_ge j q with h | h
      · exact hgt q h
      · have : q = j := by simp only at hq; omega
        subst this; exact hmx
  · obtain rfl : i = 0 := by omega
    have hneg : ¬ (0 : Int) ≤ ((0 : Nat) : Int) - 1 := by omega
    have hRe : R = lgF l := List.ext_getElem (by omega) fun q h1 h2 => by
      have := hk q (by omega)
      rw [List.getD_eq_getElem?_getD, List.getD_eq_getElem?_getD, List.getElem?_eq_getElem h1, List.getElem?_eq_getElem h2] at this
      exact this
    subst hRe
    simp +contextual (maxSteps := 5000000) only [go_sem, ↓reduceIte, hneg, hR]
def c_long (caps args : List D) : Prop × Out := match caps, args with
  | [], [.sl 2 rows] => (rows = (rows.map dP).map eP ∧ rows.length < 1000000, .ret (.sl 1 ((lgF (rows.map dP)).map eI)))
  | _, _ => (False, .ret .any)
theorem st_long : StC Tryz.prog 100 c_long := by
  intro caps args; unfold c_long; split
  · rename_i rows
    rintro ⟨h1, h3⟩
    have := fc_long (rows.map dP) (by simpa using h3)
    rw [← h1] at this
    exact this
  · exact fun h => h.elim
theorem fc_rLong (l : List (Int × Int)) (hl : l.length < 1000000) : FC Tryz.prog 119 [] [.sl 2 (l.map eP)] (.ret (.sl 1 ((lgF l).map eI))) := by
  refine fc_M (fn := Tryz.f119) (C := (tab [] [])) (rs := [2]) mixed (by kernel_rfl) (by kernel_rfl) rfl rfl (by kernel_rfl) (by intro ys h; cases h) ?_
  have hln := lgF_len l
  simp +contextual (maxSteps := 5000000) only [go_sem, ↓reduceIte, Int.toNat_natCast, h0nn]
  refine fun _ => ⟨by omega, fun _ => ⟨inR64 (by omega) (by omega), fun _ => M_loopI (fun s : Nat × List Int => ⟨[(0, .sl 2 (l.map eP)), (3, .vec 8 l.length), (4, .int .i64 ((s.1 : Int) - 1))], [(8, .vec 3 1 (s.2.map eI) 0)]⟩) (fun s => s.1) (fun s => (s.1 ≤ l.length ∧ s.2.length = l.length) ∧ ∀ k, s.1 ≤ k → s.2.getD k 0 = (lgF l).getD k 0) (l.length, List.replicate l.length 0) ?_ ?_⟩⟩
  · simp +contextual (maxSteps := 5000000) only [go_sem, ↓reduceIte]
    refine ⟨rfl, Nat.le_refl _, fun k hk => ?_⟩
    simp only [List.getD_eq_getElem?_getD, List.getElem?_eq_none (show (List.replicate l.length (0 : Int)).length ≤ k by simpa using hk), List.getElem?_eq_none (show (lgF l).length ≤ k by omega)]
  rintro ⟨i, R⟩ ⟨⟨hi, hR⟩, hk⟩
  simp only at hi hR hk ⊢
  by_cases hp : 0 < i
  · obtain ⟨j, rfl⟩ : ∃ j, i = j + 1 := ⟨i - 1, by omega⟩
    have hj : j < l.length := by omega
    have q1 : ((j + 1 : Nat) : Int) - 1 = (j : Int) := by omega
    have hjR : j < R.length := by omega
    have hc : j < l.length ∧ j < R.length := ⟨hj, hjR⟩
    rw [q1]
    simp +contextual (maxSteps := 5000000) only [go_sem, ↓reduceIte, hj, hjR, hR, eI_at, eI_set, List.length_set, tn_add, tn_add1, tn_sub, tn_sub1, sh1, sh1b, half_cast]
    refine ⟨by omega, fun _ => ⟨inR64 (by omega) (by omega), fun _ => ?_⟩⟩
    refine M_loopI (fun s : Nat × List Int => ⟨[(0, .sl 2 (l.map eP)), (3, .vec 8 l.length), (4, .int .i64 (j : Int)), (5, .int .i64 s.1)], [(8, .vec 3 1 (s.2.map eI) 0)]⟩) (fun s => l.length - s.1) (fun s => ((j < s.1 ∧ s.1 ≤ l.length) ∧ s.2.length = l.length) ∧ (1 ≤ s.2.getD j 0 ∧ s.2.getD j 0 ≤ l.length) ∧ mxF (l.getD j (0, 0)).1 (l.drop s.1) ((lgF l).drop s.1) (s.2.getD j 0) = (lgF l).getD j 0 ∧ ∀ k, j < k → s.2.getD k 0 = (lgF l).getD k 0) (j + 1, R.set j 1) ?_ ?_
    · simp +contextual (maxSteps := 5000000) only [go_sem, ↓reduceIte]
      have e1 : (R.set j 1).getD j 0 = 1 := by rw [getD_setI hjR, if_pos rfl]
      refine ⟨by omega, ⟨by omega, by simpa using hR⟩, ⟨by rw [e1]; omega, by rw [e1]; omega⟩, by rw [e1, ← lgF_at hj], fun k hjk => ?_⟩
      rw [getD_setI hjR, if_neg (by omega)]
      exact hk k (by omega)
    rintro ⟨k, Q⟩ ⟨⟨⟨hjk, hkl⟩, hQ⟩, ⟨hb1, hb2⟩, hmx, hgt⟩
    simp only at hjk hkl hQ hb1 hb2 hmx hgt ⊢
    have hjQ : j < Q.length := by omega
    by_cases hlt : k < l.length
    · have hatk := eP_at l k hlt
      have hatj := eP_at l j hj
      have hkQ : k < Q.length := by omega
      have hvk := eI_at Q k hkQ
      have hvj := eI_at Q j hjQ
      have hst := mxF_step (l.getD j (0, 0)).1 (acc := Q.getD j 0) hlt (n := lgF l) (by omega)
      have hgk := hgt k hjk
      have hbk : (lgF l).getD k 0 ≤ l.length := (lgF_bd l _ (getD_mem (by omega))).2
      have hbk0 : 1 ≤ (lgF l).getD k 0 := (lgF_bd l _ (getD_mem (by omega))).1
      have hbk2 : Q.getD k 0 + 1 ≤ l.length := by
        have h1 := lgF_bd (l.drop k) ((lgF l).getD k 0) (by rw [lgF_drop, drop_getD (d := 0) (by omega)]; simp)
        have h2 : (l.drop k).length = l.length - k := by simp
        omega
      by_cases c1 : (l.getD j (0, 0)).1 < (l.getD k (0, 0)).1
      · rw [if_pos c1] at hst
        simp +contextual (maxSteps := 5000000) only [go_sem, ↓reduceIte, hlt, hatk, hatj, hj, hkQ, hjQ, hvk, hvj, c1, hQ, eI_set]
        refine fun _ => ⟨inR64 (by omega) (by omega), fun _ => ⟨by omega, fun _ => ⟨inR64 (by omega) (by omega), fun _ => ⟨(k + 1, Q.set j (max (Q.getD j 0) (Q.getD k 0 + 1))), ⟨by simp, rfl⟩, by simp only; omega, ⟨⟨by simp only; omega, by simp only; omega⟩, by simpa using hQ⟩, ?_⟩⟩⟩⟩
        have e1 : (Q.set j (max (Q.getD j 0) (Q.getD k 0 + 1))).getD j 0 = max (Q.getD j 0) (Q.getD k 0 + 1) := by rw [getD_setI hjQ, if_pos rfl]
        simp only
        rw [e1]
        refine ⟨⟨by omega, by omega⟩, by rw [← hmx, hst, hgk], fun q hq => ?_⟩
        rw [getD_setI hjQ, if_neg (by omega)]; exact hgt q hq
      · rw [if_neg c1] at hst
        simp +contextual (maxSteps := 5000000) only [go_sem, ↓reduceIte, hlt, hatk, hatj, hj, hkQ, hjQ, hvk, hvj, c1, hQ]
        exact fun _ => ⟨inR64 (by omega) (by omega), fun _ => ⟨(k + 1, Q), ⟨by simp, rfl⟩, by simp only; omega, ⟨⟨by simp only; omega, by simp only; omega⟩, hQ⟩, ⟨hb1, hb2⟩, by rw [← hmx, hst], hgt⟩⟩
    · rw [mxF_end _ hlt] at hmx
      simp +contextual (maxSteps := 5000000) only [go_sem, ↓reduceIte, hlt, hQ]
      refine fun _ => ⟨inR64 (by omega) (by omega), fun _ => ⟨(j, Q), ⟨by simp, rfl⟩, by simp only; omega, ⟨by simp only; omega, hQ⟩, fun q hq => ?_⟩⟩
      rcases Nat.lt_or_ge j q with h | h
      · exact hgt q h
      · have : q = j := by simp only at hq; omega
        subst this; exact hmx
  · obtain rfl : i = 0 := by omega
    have hneg : ¬ (0 : Int) ≤ ((0 : Nat) : Int) - 1 := by omega
    have hRe : R = lgF l := List.ext_getElem (by omega) fun q h1 h2 => by
      have := hk q (by omega)
      rw [List.getD_eq_getElem?_getD, List.getD_eq_getElem?_getD, List.getElem?_eq_getElem h1, List.getElem?_eq_getElem h2] at this
      exact this
    subst hRe
    simp +contextual (maxSteps := 5000000) only [go_sem, ↓reduceIte, hneg, hR]
def c_rLong (caps args : List D) : Prop × Out := match caps, args with
  | [], [.sl 2 rows] => (rows = (rows.map dP).map eP ∧ rows.length < 1000000, .ret (.sl 1 ((lgF (rows.map dP)).map eI)))
  | _, _ => (False, .ret .any)
theorem st_rLong : StC Tryz.prog 119 c_rLong := by
  intro caps args; unfold c_rLong; split
  · rename_i rows
    rintro ⟨h1, h3⟩
    have := fc_rLong (rows.map dP) (by simpa using h3)
    rw [← h1] at this
    exact this
  · exact fun h => h.elim
def okLast : Option Int → Int → Bool
  | none, _ => true
  | some a, b => decide (a < b)
def stR : Int → List (Int × Int) → List Int → Int → Option Int → List Int
  | i, p :: l, m :: n, want, last => if m = want ∧ 0 < want ∧ okLast last p.1 = true then i :: stR (i + 1) l n (want - 1) (some p.1) else stR (i + 1) l n want last
  | _, _, _, _, _ => []
def mx0 (n : List Int) : Int := n.foldl max 0
def stF (l : List (Int × Int)) : List Int := stR 0 l (lgF l) (mx0 (lgF l)) none
theorem stR_zero : ∀ (i : Int) (l : List (Int × Int)) (n : List Int) (want : Int) (last : Option Int), want ≤ 0 → stR i l n want last = []
  | _, [], _, _, _, _ => by simp [stR]
  | _, _ :: _, [], _, _, _ => by simp [stR]
  | i, p :: l, m :: n, want, last, h => by
    simp only [stR]
    rw [if_neg (by omega)]
    exact stR_zero _ l n want last h
theorem stR_step {l : List (Int × Int)} {n : List Int} {k : Nat} {want : Int} {last : Option Int} (h : k < l.length) (h2 : k < n.length) :
    stR k (l.drop k) (n.drop k) want last = if n.getD k 0 = want ∧ 0 < want ∧ okLast last (l.getD k (0, 0)).1 = true then (k : Int) :: stR ((k + 1 : Nat) : Int) (l.drop (k + 1)) (n.drop (k + 1)) (want - 1) (some (l.getD k (0, 0)).1) else stR ((k + 1 : Nat) : Int) (l.drop (k + 1)) (n.drop (k + 1)) want last := by
  rw [drop_getD (d := (0, 0)) h, drop_getD (d := 0) h2]
  simp only [stR, List.drop_succ_cons, Int.natCast_add, Int.cast_ofNat_Int]
theorem mx0_bd {b : Int} (hb : 0 ≤ b) : ∀ (n : List Int) (acc : Int), 0 ≤ acc → acc ≤ b → (∀ x ∈ n, x ≤ b) → 0 ≤ n.foldl max acc ∧ n.foldl max acc ≤ b
  | [], acc, h1, h2, _ => ⟨h1, h2⟩
  | x :: n, acc, h1, h2, h => by
    have := h x (by simp)
    exact mx0_bd hb n (max acc x) (by omega) (by omega) (fun y hy => h y (by simp [hy]))
theorem stF_lt (l : List (Int × Int)) : ∀ (n : List Int) (k : List (Int × Int)) (i want : Int) (last : Option Int), 0 ≤ i → (∀ x ∈ stR i k n want last, i ≤ x ∧ x < i + k.length)
  | [], k, i, want, last, _ => by cases k <;> simp [stR]
  | _ :: _, [], i, want, last, _ => by simp [stR]
  | m :: n, p :: k, i, want, last, hi => by
    intro x hx
    simp only [stR] at hx
    split at hx
    · rcases List.mem_cons.1 hx with rfl | hx
      · simp only [List.length_cons]; omega
      · have := stF_lt l n k (i + 1) _ _ (by omega) x hx
        simp only [List.length_cons]; omega
    · have := stF_lt l n k (i + 1) _ _ (by omega) x hx
      simp only [List.length_cons]; omega
theorem stF_in (l : List (Int × Int)) : ∀ x ∈ stF l, 0 ≤ x ∧ x < l.length := fun x hx => by
  have := stF_lt l _ _ _ _ _ (Int.le_refl 0) x hx
  omega
theorem mxM : ∀ (n : List Int) (acc : Int), n.foldl max acc = max acc (n.foldl max acc)
  | [], acc => by simp
  | x :: n, acc => by
    have := mxM n (max acc x)
    simp only [List.foldl_cons]
    omega
theorem fold_take {n : List Int} {i : Nat} (h : i < n.length) (acc : Int) : (n.take (i + 1)).foldl max acc = max ((n.take i).foldl max acc) (n.getD i 0) := by
  rw [List.take_add_one, List.getElem?_eq_getElem h, List.foldl_append, List.getD_eq_getElem?_getD, List.getElem?_eq_getElem h]; rfl
theorem fc_Max (n : List Int) (h0 : 0 < n.length) (hl : n.length < 1000000000) : FC Tryz.prog 101 [] [.sl 1 (n.map eI)] (.ret (.int .i64 (n.foldl max (n.getD 0 0)))) := by
  refine fc_M (fn := Tryz.f101) (C := (tab [] [])) (rs := [2]) mixed (by kernel_rfl) (by kernel_rfl) rfl rfl (by kernel_rfl) (by intro ys h; cases h) ?_
  have h0' : ¬ (n.length : Int) < 1 := by omega
  have hat0 := eI_at n 0 h0
  have h0i : (0 : Int) < n.length := by omega
  simp +contextual (maxSteps := 5000000) only [go_sem, ↓reduceIte, h0', h0, h0i, hat0, Int.toNat_zero, Int.reduceToNat, Nat.sub_zero, Nat.le_refl]
  have e1 : (n.take 1).foldl max (n.getD 0 0) = n.getD 0 0 := by
    cases n with
    | nil => simp at h0
    | cons x n => simp
  refine fun _ => ⟨Int.le_refl _, fun _ => M_loopI (fun i : Nat => ⟨[(0, .sl 1 (n.map eI)), (3, .int .i64 ((n.take i).foldl max (n.getD 0 0))), (4, .int .i64 i)], []⟩) (fun i => n.length - i) (fun i => 1 ≤ i ∧ i ≤ n.length) 1 ?_ ?_⟩
  · simp +contextual (maxSteps := 5000000) only [go_sem, ↓reduceIte, e1]
    omega
  rintro i ⟨h1, h2⟩
  by_cases hlt : i < n.length
  · have hat := eI_at n i hlt
    have hf := fold_take hlt (n.getD 0 0)
    simp +contextual (maxSteps := 5000000) only [go_sem, ↓reduceIte, hlt, hat]
    exact fun _ => ⟨inR64 (by omega) (by omega), fun _ => ⟨i + 1, ⟨by rw [hf], by simp⟩, by omega, by omega, by omega⟩⟩
  · obtain rfl : i = n.length := by omega
    simp +contextual (maxSteps := 5000000) only [go_sem, ↓reduceIte, hlt, Nat.lt_irrefl, List.take_length]
def c_Max (caps args : List D) : Prop × Out := match caps, args with
  | [], [.sl 1 rows] => ((rows = (rows.map dI).map eI ∧ 0 < rows.length) ∧ rows.length < 1000000000, .ret (.int .i64 ((rows.map dI).foldl max ((rows.map dI).getD 0 0))))
  | _, _ => (False, .ret .any)
theorem st_Max : StC Tryz.prog 101 c_Max := by
  intro caps args; unfold c_Max; split
  · rename_i rows
    rintro ⟨⟨h1, h2⟩, h3⟩
    have := fc_Max (rows.map dI) (by simpa using h2) (by simpa using h3)
    rw [← h1] at this
    exact this
  · exact fun h => h.elim
end Go.Proofs.YtlabdffgcciepaaGreatDoor
namespace Go.Proofs.YtlabdffgcciepaaGreatDoor
open Go.Tn
set_option maxHeartbeats 8000000
set_option maxRecDepth 100000
def lastQ (l : List (Int × Int)) (out : List Int) : Option Int := out.getLast?.map fun j => (l.getD j.toNat (0, 0)).1
theorem lastQ_nil (l : List (Int × Int)) : lastQ l [] = none := rfl
theorem lastQ_snoc (l : List (Int × Int)) (out : List Int) (i : Nat) : lastQ l (out ++ [(i : Int)]) = some (l.getD i (0, 0)).1 := by
  simp [lastQ]
theorem lastQ_at {l : List (Int × Int)} {out : List Int} (h : 0 < out.length) : lastQ l out = some (l.getD (out.getD (out.length - 1) 0).toNat (0, 0)).1 := by
  unfold lastQ
  rw [List.getLast?_eq_getElem?, List.getD_eq_getElem?_getD (l := out), List.getElem?_eq_getElem (show out.length - 1 < out.length by omega)]
  rfl
theorem mx0_pos {l : List (Int × Int)} (h : 0 < l.length) : 1 ≤ mx0 (lgF l) ∧ mx0 (lgF l) ≤ l.length ∧ (lgF l).foldl max ((lgF l).getD 0 0) = mx0 (lgF l) := by
  have hb := lgF_bd l
  cases l with
  | nil => simp at h
  | cons p r =>
    have h1 := hb (mxF p.1 r (lgF r) 1) (by simp [lgF])
    simp only [lgF, mx0, List.foldl_cons, List.getD_cons_zero]
    rw [show max (0 : Int) (mxF p.1 r (lgF r) 1) = mxF p.1 r (lgF r) 1 by omega, show max (mxF p.1 r (lgF r) 1) (mxF p.1 r (lgF r) 1) = mxF p.1 r (lgF r) 1 by omega]
    obtain ⟨_, h3⟩ := mx0_bd (b := (p :: r).length) (by omega) (lgF r) (mxF p.1 r (lgF r) 1) (by omega) h1.2 (fun x hx => (hb x (by simp [lgF, hx])).2)
    have h4 := mxM (lgF r) (mxF p.1 r (lgF r) 1)
    exact ⟨by omega, h3, rfl⟩
theorem out_last {out : List Int} (h : 0 < out.length) : out.getD (out.length - 1) 0 ∈ out := getD_mem (by omega)
theorem snocAll {out : List Int} {i : Nat} (h : ∀ x ∈ out, 0 ≤ x ∧ x < (i : Int)) : ∀ x ∈ out ++ [(i : Int)], 0 ≤ x ∧ x < ((i + 1 : Nat) : Int) := fun x hx => by
  rcases List.mem_append.1 hx with h1 | h1
  · have := h x h1; omega
  · simp at h1; omega
theorem fc_Still (l : List (Int × Int)) (hl : l.length < 1000000) : FC Tryz.prog 60 [] [.sl 2 (l.map eP)] (.ret (.sl 1 ((stF l).map eI))) := by
  refine fc_M (fn := Tryz.f60) (C := (tab [(100, c_long), (101, c_Max)] [] [])) (rs := [2]) mixed (by kernel_rfl) (by kernel_rfl) rfl rfl (by kernel_rfl) (by intro ys h; cases h) ?_
  have hln := lgF_len l
  by_cases h0 : 0 < l.length
  rotate_left
  · obtain rfl : l = [] := List.eq_nil_of_length_eq_zero (by omega)
    simp +contextual (maxSteps := 5000000) only [go_sem, ↓reduceIte, List.map_nil, List.length_nil, Int.reduceEq, Int.reduceNe, Int.reduceLT, Int.reduceLE, Int.reduceToNat, Int.cast_ofNat_Int]
    simp [stF, stR]
  obtain ⟨m1, m2, m3⟩ := mx0_pos h0
  have h0' : ¬ (l.length : Int) = 0 := by omega
  have h0n : ¬ l.length = 0 := by omega
  have hd1 : (l.map eP).map dP = l := dP_eP l
  have hd2 : ((lgF l).map eI).map dI = lgF l := dI_eI _
  simp +contextual (maxSteps := 5000000) only [go_sem, ↓reduceIte, h0', h0n, c_long, st_long, c_Max, st_Max, hd1, hd2, hln, h0, hl, m3]
  refine fun _ => ⟨by omega, ?_⟩
  refine M_loopI (fun s : Nat × List Int × Int => ⟨[(0, .sl 2 (l.map eP)), (3, .sl 1 ((lgF l).map eI)), (4, .int .i64 s.2.2), (5, .vec 51 s.2.1.length), (15, .sl 2 (l.map eP)), (16, .int .i64 l.length), (17, .int .i64 s.1)], [(51, .vec 3 1 (s.2.1.map eI) 0)]⟩) (fun s => l.length - s.1) (fun s => (s.1 ≤ l.length ∧ s.2.1.length ≤ s.1) ∧ (0 < s.2.2 ∧ s.2.2 ≤ l.length) ∧ (∀ x ∈ s.2.1, 0 ≤ x ∧ x < s.1) ∧ s.2.1 ++ stR s.1 (l.drop s.1) ((lgF l).drop s.1) s.2.2 (lastQ l s.2.1) = stF l) (0, [], mx0 (lgF l)) ?_ ?_
  · simp +contextual (maxSteps := 5000000) only [go_sem, ↓reduceIte]
    simp [lastQ_nil, stF]
    omega
  rintro ⟨i, out, want⟩ ⟨⟨hi, ho⟩, ⟨hw, hw2⟩, hall, hR⟩
  simp only at hi ho hw hw2 hall hR ⊢
  by_cases hlt : i < l.length
  rotate_left
  · obtain rfl : i = l.length := by omega
    have e1 : out = stF l := by rw [← hR, List.drop_length]; simp [stR]
    simp +contextual (maxSteps := 5000000) only [go_sem, ↓reduceIte, hlt, Nat.lt_irrefl]
    rw [e1]
  have hat := eP_at l i hlt
  have hil : i < (lgF l).length := by omega
  have han := eI_at (lgF l) i hil
  rw [stR_step hlt hil] at hR
  by_cases c1 : (lgF l).getD i 0 = want
  rotate_left
  · rw [if_neg (fun h => c1 h.1)] at hR
    simp +contextual (maxSteps := 5000000) only [go_sem, ↓reduceIte, hlt, hat, hil, han, c1]
    exact ⟨inR64 (by omega) (by omega), fun _ => ⟨(i + 1, out, want), ⟨by simp, rfl⟩, by simp only; omega, ⟨by simp only; omega, by simp only; omega⟩, ⟨hw, hw2⟩, fun x hx => ⟨(hall x hx).1, by have := (hall x hx).2; simp only; omega⟩, hR⟩⟩
  by_cases c2 : 0 < out.length
  · have c2' : (0 : Int) < out.length := by omega
    have hao := eI_at out (out.length - 1) (by omega)
    have hjj := hall _ (out_last c2)
    have hla := lastQ_at (l := l) c2
    generalize hj : out.getD (out.length - 1) 0 = j at hao hjj hla
    have hjl : j.toNat < l.length := by omega
    have hjl2 : j < l.length := by omega
    have haj := eP_at l j.toNat hjl
    have hol : out.length - 1 < out.length := by omega
    by_cases c3 : (l.getD i (0, 0)).1 ≤ (l.getD j.toNat (0, 0)).1
    · rw [if_neg (fun h => by have := h.2.2; rw [hla] at this; simp only [okLast, decide_eq_true_eq] at this; omega)] at hR
      simp +contextual (maxSteps := 5000000) only [go_sem, ↓reduceIte, hlt, hat, hil, han, c1, c2', hao, hjl, hjl2, hjj.1, haj, c3, hol, eI_at, eI_set, List.length_set, tn_add, tn_add1, tn_sub, tn_sub1, sh1, sh1b, half_cast]
      exact ⟨inR64 (by omega) (by omega), fun _ => ⟨by omega, fun _ => ⟨inR64 (by omega) (by omega), fun _ => ⟨(i + 1, out, want), ⟨by simp, rfl⟩, by simp only; omega, ⟨by simp only; omega, by simp only; omega⟩, ⟨hw, hw2⟩, fun x hx => ⟨(hall x hx).1, by have := (hall x hx).2; simp only; omega⟩, hR⟩⟩⟩⟩
    · rw [if_pos ⟨c1, hw, by rw [hla]; simp only [okLast, decide_eq_true_eq]; omega⟩] at hR
      by_cases c4 : want - 1 = 0
      · rw [c4, stR_zero _ _ _ _ _ (Int.le_refl 0)] at hR
        simp +contextual (maxSteps := 5000000) only [go_sem, ↓reduceIte, hlt, hat, hil, han, c1, c2', hao, hjl, hjl2, hjj.1, haj, c3, hol, c4, eI_at, eI_set, List.length_set, tn_add, tn_add1, tn_sub, tn_sub1, sh1, sh1b, half_cast]
        exact ⟨inR64 (by omega) (by omega), fun _ => ⟨⟨by omega, by omega⟩, fun _ => ⟨by omega, fun _ => ⟨inR64 (by omega) (by omega), fun _ => by rw [← hR]; simp [eI]⟩⟩⟩⟩
      · simp +contextual (maxSteps := 5000000) only [go_sem, ↓reduceIte, hlt, hat, hil, han, c1, c2', hao, hjl, hjl2, hjj.1, haj, c3, hol, c4, eI_at, eI_set, List.length_set, tn_add, tn_add1, tn_sub, tn_sub1, sh1, sh1b, half_cast]
        exact ⟨inR64 (by omega) (by omega), fun _ => ⟨⟨by omega, by omega⟩, fun _ => ⟨by omega, fun _ => ⟨inR64 (by omega) (by omega), fun _ => ⟨inR64 (by omega) (by omega), fun _ => ⟨(i + 1, out ++ [(i : Int)], want - 1), ⟨⟨rfl, by simp, by simp⟩, by simp [eI]⟩, by simp only; omega, ⟨by simp only; omega, by simp; omega⟩, ⟨by simp only; omega, by simp only; omega⟩, snocAll hall, by
          simp only
          rw [lastQ_snoc, List.append_assoc]; exact hR⟩⟩⟩⟩⟩⟩
  · obtain rfl : out = [] := List.eq_nil_of_length_eq_zero (by omega)
    rw [if_pos ⟨c1, hw, by rw [lastQ_nil]; rfl⟩] at hR
    by_cases c4 : want - 1 = 0
    · rw [c4, stR_zero _ _ _ _ _ (Int.le_refl 0)] at hR
      simp +contextual (maxSteps := 5000000) only [go_sem, ↓reduceIte, hlt, hat, hil, han, c1, c4, eI_at, eI_set, List.length_set, tn_add, tn_add1, tn_sub, tn_sub1, sh1, sh1b, half_cast, Int.reduceEq, Int.reduceNe, Int.reduceLT, Int.reduceLE, Int.reduceToNat, Int.cast_ofNat_Int, List.length_nil, List.map_nil]
      exact ⟨inR64 (by omega) (by omega), fun _ => by rw [← hR]; simp [eI]⟩
    · simp +contextual (maxSteps := 5000000) only [go_sem, ↓reduceIte, hlt, hat, hil, han, c1, c4, eI_at, eI_set, List.length_set, tn_add, tn_add1, tn_sub, tn_sub1, sh1, sh1b, half_cast, Int.reduceEq, Int.reduceNe, Int.reduceLT, Int.reduceLE, Int.reduceToNat, Int.cast_ofNat_Int, List.length_nil, List.map_nil]
      exact ⟨inR64 (by omega) (by omega), fun _ => ⟨inR64 (by omega) (by omega), fun _ => ⟨(i + 1, [(i : Int)], want - 1), ⟨⟨rfl, by simp, by simp⟩, by simp [eI]⟩, by simp only; omega, ⟨by simp only; omega, by simp⟩, ⟨by simp only; omega, by simp only; omega⟩, snocAll hall, by
        simp only
        have := lastQ_snoc l [] i
        rw [List.nil_append] at this
        rw [this]; exact hR⟩⟩⟩
def c_Still (caps args : List D) : Prop × Out := match caps, args with
  | [], [.sl 2 rows] => (rows = (rows.map dP).map eP ∧ rows.length < 1000000, .ret (.sl 1 ((stF (rows.map dP)).map eI)))
  | _, _ => (False, .ret .any)
theorem st_Still : StC Tryz.prog 60 c_Still := by
  intro caps args; unfold c_Still; split
  · rename_i rows
    rintro ⟨h1, h3⟩
    have := fc_Still (rows.map dP) (by simpa using h3)
    rw [← h1] at this
    exact this
  · exact fun h => h.elim
theorem fc_rStill (l : List (Int × Int)) (hl : l.length < 1000000) : FC Tryz.prog 110 [] [.sl 2 (l.map eP)] (.ret (.sl 1 ((stF l).map eI))) := by
  refine fc_M (fn := Tryz.f110) (C := (tab [(119, c_rLong)] [] [])) (rs := [2]) mixed (by kernel_rfl) (by kernel_rfl) rfl rfl (by kernel_rfl) (by intro ys h; cases h) ?_
  have hln := lgF_len l
  have hd1 : (l.map eP).map dP = l := dP_eP l
  have hbd := lgF_bd l
  simp +contextual (maxSteps := 5000000) only [go_sem, ↓reduceIte, c_rLong, st_rLong, hd1, hln, hl]
  refine M_loopI (fun i : Nat => ⟨[(0, .sl 2 (l.map eP)), (3, .sl 1 ((lgF l).map eI)), (4, .int .i64 (((lgF l).take i).foldl max 0)), (5, .int .i64 i)], []⟩) (fun i => l.length - i) (fun i => i ≤ l.length) 0 ?_ ?_
  · simp +contextual (maxSteps := 5000000) only [go_sem, ↓reduceIte, List.take_zero, List.foldl_nil]
    rfl
  intro i hi
  by_cases hlt : i < l.length
  · have hil : i < (lgF l).length := by omega
    have han := eI_at (lgF l) i hil
    have hf := fold_take hil 0
    simp +contextual (maxSteps := 5000000) only [go_sem, ↓reduceIte, hlt, hil, hln, han]
    exact fun _ => ⟨inR64 (by omega) (by omega), fun _ => ⟨i + 1, ⟨by rw [hf], by simp⟩, by omega, by omega⟩⟩
  obtain rfl : i = l.length := by omega
  have etk : (lgF l).take l.length = lgF l := by rw [← hln, List.take_length]
  have hmx : 0 ≤ mx0 (lgF l) ∧ mx0 (lgF l) ≤ l.length := mx0_bd (by omega) _ 0 (by omega) (by omega) (fun x hx => (hbd x hx).2)
  have hmx0 : (lgF l).foldl max 0 = mx0 (lgF l) := rfl
  clear hlt hi
  simp +contextual (maxSteps := 5000000) only [go_sem, ↓reduceIte, Nat.lt_irrefl, hln, etk, hmx0, Int.lt_irrefl]
  refine fun _ => M_loopI (fun s : Nat × List Int × Int => ⟨[(0, .sl 2 (l.map eP)), (3, .sl 1 ((lgF l).map eI)), (4, .int .i64 s.2.2), (6, .vec 66 s.2.1.length), (7, .int .i64 s.1)], [(66, .vec 3 1 (s.2.1.map eI) 0)]⟩) (fun s => l.length - s.1) (fun s => (s.1 ≤ l.length ∧ s.2.1.length ≤ s.1) ∧ (0 ≤ s.2.2 ∧ s.2.2 ≤ l.length) ∧ (∀ x ∈ s.2.1, 0 ≤ x ∧ x < s.1) ∧ s.2.1 ++ stR s.1 (l.drop s.1) ((lgF l).drop s.1) s.2.2 (lastQ l s.2.1) = stF l) (0, [], mx0 (lgF l)) ?_ ?_
  · simp +contextual (maxSteps := 5000000) only [go_sem, ↓reduceIte]
    simp [lastQ_nil, stF]
    omega
  rintro ⟨i, out, want⟩ ⟨⟨hi, ho⟩, ⟨hw, hw2⟩, hall, hR⟩
  simp only at hi ho hw hw2 hall hR ⊢
  by_cases hlt : i < l.length
  rotate_left
  · obtain rfl : i = l.length := by omega
    have e1 : out = stF l := by rw [← hR, List.drop_length]; simp [stR]
    simp +contextual (maxSteps := 5000000) only [go_sem, ↓reduceIte, hlt, Nat.lt_irrefl]
    rw [e1]
    exact fun _ => rfl
  have hat := eP_at l i hlt
  have hil : i < (lgF l).length := by omega
  have han := eI_at (lgF l) i hil
  rw [stR_step hlt hil] at hR
  by_cases c2 : 0 < out.length
  · have c2' : ¬ (out.length : Int) = 0 := by omega
    have hao := eI_at out (out.length - 1) (by omega)
    have hjj := hall _ (out_last c2)
    have hla := lastQ_at (l := l) c2
    generalize hj : out.getD (out.length - 1) 0 = j at hao hjj hla
    have hjl : j.toNat < l.length := by omega
    have hjl2 : j < l.length := by omega
    have haj := eP_at l j.toNat hjl
    have hol : out.length - 1 < out.length := by omega
    have hok : okLast (lastQ l out) (l.getD i (0, 0)).1 = decide ((l.getD j.toNat (0, 0)).1 < (l.getD i (0, 0)).1) := by rw [hla]; rfl
    rw [hok] at hR
    by_cases c3 : (l.getD j.toNat (0, 0)).1 < (l.getD i (0, 0)).1 ∧ (lgF l).getD i 0 = want ∧ 0 < want
    · obtain ⟨c3, c1, c4⟩ := c3
      rw [if_pos ⟨c1, c4, by simpa using c3⟩] at hR
      simp +contextual (maxSteps := 5000000) only [go_sem, ↓reduceIte, hlt, hat, hil, hln, han, c1, c2', hao, hjl, hjl2, hjj.1, haj, c3, hol, c4, eI_at, eI_set, List.length_set, tn_add, tn_add1, tn_sub, tn_sub1, sh1, sh1b, half_cast]
      exact fun _ => ⟨inR64 (by omega) (by omega), fun _ => ⟨⟨by omega, by omega⟩, fun _ => ⟨by omega, fun _ => ⟨inR64 (by omega) (by omega), fun _ => ⟨inR64 (by omega) (by omega), fun _ => ⟨(i + 1, out ++ [(i : Int)], want - 1), ⟨⟨rfl, by simp, by simp⟩, by simp [eI]⟩, by simp only; omega, ⟨by simp only; omega, by simp; omega⟩, ⟨by simp only; omega, by simp only; omega⟩, snocAll hall, by
        simp only
        rw [lastQ_snoc, List.append_assoc]; exact hR⟩⟩⟩⟩⟩⟩
    · rw [if_neg (fun h => c3 ⟨by simpa using h.2.2, h.1, h.2.1⟩)] at hR
      by_cases d1 : (lgF l).getD i 0 = want
      · by_cases d2 : 0 < want
        · have d3 : ¬ (l.getD j.toNat (0, 0)).1 < (l.getD i (0, 0)).1 := fun h => c3 ⟨h, d1, d2⟩
          simp +contextual (maxSteps := 5000000) only [go_sem, ↓reduceIte, hlt, hat, hil, hln, han, d1, d2, d3, c2', hao, hjl, hjl2, hjj.1, haj, hol, eI_at, eI_set, List.length_set, tn_add, tn_add1, tn_sub, tn_sub1, sh1, sh1b, half_cast]
          exact fun _ => ⟨inR64 (by omega) (by omega), fun _ => ⟨⟨by omega, by omega⟩, fun _ => ⟨inR64 (by omega) (by omega), fun _ => ⟨(i + 1, out, want), ⟨⟨rfl, rfl, by simp⟩, rfl⟩, by simp only; omega, ⟨by simp only; omega, by simp only; omega⟩, ⟨hw, hw2⟩, fun x hx => ⟨(hall x hx).1, by have := (hall x hx).2; simp only; omega⟩, hR⟩⟩⟩⟩
        · simp +contextual (maxSteps := 5000000) only [go_sem, ↓reduceIte, hlt, hat, hil, hln, han, d1, d2, c2', hao, hjl, hjl2, hjj.1, haj, hol, eI_at, eI_set, List.length_set, tn_add, tn_add1, tn_sub, tn_sub1, sh1, sh1b, half_cast]
          exact fun _ => ⟨inR64 (by omega) (by omega), fun _ => ⟨⟨by omega, by omega⟩, fun _ => ⟨inR64 (by omega) (by omega), fun _ => ⟨(i + 1, out, want), ⟨⟨rfl, rfl, by simp⟩, rfl⟩, by simp only; omega, ⟨by simp only; omega, by simp only; omega⟩, ⟨hw, hw2⟩, fun x hx => ⟨(hall x hx).1, by have := (hall x hx).2; simp only; omega⟩, hR⟩⟩⟩⟩
      · simp +contextual (maxSteps := 5000000) only [go_sem, ↓reduceIte, hlt, hat, hil, hln, han, d1, c2', hao, hjl, hjl2, hjj.1, haj, hol, eI_at, eI_set, List.length_set, tn_add, tn_add1, tn_sub, tn_sub1, sh1, sh1b, half_cast]
        exact fun _ => ⟨inR64 (by omega) (by omega), fun _ => ⟨⟨by omega, by omega⟩, fun _ => ⟨inR64 (by omega) (by omega), fun _ => ⟨(i + 1, out, want), ⟨⟨rfl, rfl, by simp⟩, rfl⟩, by simp only; omega, ⟨by simp only; omega, by simp only; omega⟩, ⟨hw, hw2⟩, fun x hx => ⟨(hall x hx).1, by have := (hall x hx).2; simp only; omega⟩, hR⟩⟩⟩⟩
  · obtain rfl : out = [] := List.eq_nil_of_length_eq_zero (by omega)
    have hok : okLast (lastQ l []) (l.getD i (0, 0)).1 = true := rfl
    by_cases c3 : (lgF l).getD i 0 = want ∧ 0 < want
    · obtain ⟨c1, c4⟩ := c3
      rw [if_pos ⟨c1, c4, hok⟩] at hR
      simp +contextual (maxSteps := 5000000) only [go_sem, ↓reduceIte, hlt, hat, hil, hln, han, c1, c4, eI_at, eI_set, List.length_set, tn_add, tn_add1, tn_sub, tn_sub1, sh1, sh1b, half_cast, Int.reduceEq, Int.reduceNe, Int.reduceLT, Int.reduceLE, Int.reduceToNat, Int.cast_ofNat_Int, List.length_nil, List.map_nil]
      exact fun _ => ⟨inR64 (by omega) (by omega), fun _ => ⟨inR64 (by omega) (by omega), fun _ => ⟨(i + 1, [(i : Int)], want - 1), ⟨⟨rfl, by simp, by simp⟩, by simp [eI]⟩, by simp only; omega, ⟨by simp only; omega, by simp⟩, ⟨by simp only; omega, by simp only; omega⟩, snocAll hall, by
        simp only
        have := lastQ_snoc l [] i
        rw [List.nil_append] at this
        rw [this]; exact hR⟩⟩⟩
    · rw [if_neg (fun h => c3 ⟨h.1, h.2.1⟩)] at hR
      by_cases d1 : (lgF l).getD i 0 = want
      · have d2 : ¬ 0 < want := fun h => c3 ⟨d1, h⟩
        simp +contextual (maxSteps := 5000000) only [go_sem, ↓reduceIte, hlt, hat, hil, hln, han, d1, d2, eI_at, eI_set, List.length_set, tn_add, tn_add1, tn_sub, tn_sub1, sh1, sh1b, half_cast, Int.reduceEq, Int.reduceNe, Int.reduceLT, Int.reduceLE, Int.reduceToNat, Int.cast_ofNat_Int, List.length_nil, List.map_nil]
        exact fun _ => ⟨inR64 (by omega) (by omega), fun _ => ⟨(i + 1, [], want), ⟨⟨rfl, rfl, by simp⟩, rfl⟩, by simp only; omega, ⟨by simp only; omega, by simp⟩, ⟨hw, hw2⟩, fun x hx => by simp at hx, hR⟩⟩
      · simp +contextual (maxSteps := 5000000) only [go_sem, ↓reduceIte, hlt, hat, hil, hln, han, d1, eI_at, eI_set, List.length_set, tn_add, tn_add1, tn_sub, tn_sub1, sh1, sh1b, half_cast, Int.reduceEq, Int.reduceNe, Int.reduceLT, Int.reduceLE, Int.reduceToNat, Int.cast_ofNat_Int, List.length_nil, List.map_nil]
        exact fun _ => ⟨inR64 (by omega) (by omega), fun _ => ⟨(i + 1, [], want), ⟨⟨rfl, rfl, by simp⟩, rfl⟩, by simp only; omega, ⟨by simp only; omega, by simp⟩, ⟨hw, hw2⟩, fun x hx => by simp at hx, hR⟩⟩
def c_rStill (caps args : List D) : Prop × Out := match caps, args with
  | [], [.sl 2 rows] => (rows = (rows.map dP).map eP ∧ rows.length < 1000000, .ret (.sl 1 ((stF (rows.map dP)).map eI)))
  | _, _ => (False, .ret .any)
theorem st_rStill : StC Tryz.prog 110 c_rStill := by
  intro caps args; unfold c_rStill; split
  · rename_i rows
    rintro ⟨h1, h3⟩
    have := fc_rStill (rows.map dP) (by simpa using h3)
    rw [← h1] at this
    exact this
  · exact fun h => h.elim
end Go.Proofs.YtlabdffgcciepaaGreatDoor
namespace Go.Proofs.YtlabdffgcciepaaGreatDoor
open Go.Tn
set_option maxHeartbeats 8000000
set_option maxRecDepth 100000
def arF (n : Nat) : List UInt8 := List.replicate n 45 ++ [62]
theorem arF_succ (n : Nat) : arF (n + 1) = 45 :: arF n := by simp [arF, List.replicate_succ]
theorem arF_len (n : Nat) : (arF n).length = n + 1 := by simp [arF]
theorem idx_short : ∀ (s sub : List UInt8), s.length < sub.length → Lib.index s sub = -1
  | [], sub, h => by
    cases sub with
    | nil => simp at h
    | cons _ _ => rfl
  | b :: l, sub, h => by
    have h1 : sub.isPrefixOf (b :: l) = false := by
      rw [Bool.eq_false_iff]
      intro hp
      have := (List.isPrefixOf_iff_prefix.1 hp).length_le
      simp only [List.length_cons] at this h; omega
    have h2 := idx_short l sub (by simp only [List.length_cons] at h; omega)
    simp only [Lib.index, h1, h2]
    rfl
def ixU (x i : Int) : Int := if x = -1 then -1 else x + i
theorem idx_hit {s sub : List UInt8} (h : s.take sub.length = sub) (hl : sub.length ≤ s.length) : Lib.index s sub = 0 := by
  cases s with
  | nil =>
    have : sub = [] := List.eq_nil_of_length_eq_zero (by simpa using hl)
    subst this; rfl
  | cons b l =>
    have : sub.isPrefixOf (b :: l) = true := by
      rw [List.isPrefixOf_iff_prefix, ← h]; exact List.take_prefix _ _
    simp only [Lib.index, this, if_true]
theorem idx_miss {s sub : List UInt8} {i : Nat} (hi : i + sub.length ≤ s.length) (h : ¬ (s.drop i).take sub.length = sub) :
    i < s.length ∧ ixU (Lib.index (s.drop i) sub) i = ixU (Lib.index (s.drop (i + 1)) sub) ((i + 1 : Nat) : Int) := by
  have hlt : i < s.length := by
    rcases Nat.lt_or_ge i s.length with h1 | h1
    · exact h1
    · exfalso
      have : sub = [] := List.eq_nil_of_length_eq_zero (by omega)
      subst this; simp at h
  refine ⟨hlt, ?_⟩
  rw [drop_getD (d := 0) hlt] at h ⊢
  have h1 : sub.isPrefixOf (s.getD i 0 :: s.drop (i + 1)) = false := by
    rw [Bool.eq_false_iff]
    intro hp
    obtain ⟨t, ht⟩ := List.isPrefixOf_iff_prefix.1 hp
    exact h (by rw [← ht]; simp)
  have hge := Lib.index_ge (s.drop (i + 1)) sub
  simp only [Lib.index, h1, Bool.false_eq_true, if_false]
  by_cases hq : Lib.index (s.drop (i + 1)) sub = -1
  · simp [hq, ixU]
  · have hb : (Lib.index (s.drop (i + 1)) sub == -1) = false := by simpa using hq
    rw [hb]
    simp only [Bool.false_eq_true, if_false, ixU]
    rw [if_neg (by omega), if_neg hq]
    omega
theorem idx_none {s sub : List UInt8} {i : Nat} (hi : ¬ i + sub.length ≤ s.length) (h0 : i ≤ s.length) : ixU (Lib.index (s.drop i) sub) i = -1 := by
  rw [idx_short _ _ (by rw [List.length_drop]; omega)]; rfl
theorem fc_rof (n : Nat) (hn : n < 1000000) : FC Tryz.prog 108 [] [.int .i64 n] (.ret (.str (arF n))) := by
  refine fc_M (fn := Tryz.f108) (C := (tab [] [])) (rs := [2]) mixed (by kernel_rfl) (by kernel_rfl) rfl rfl (by kernel_rfl) (by intro ys h; cases h) ?_
  simp +contextual (maxSteps := 5000000) only [go_sem, ↓reduceIte]
  refine M_loopI (fun i : Nat => ⟨[(0, .int .i64 n), (3, .str (arF i)), (4, .int .i64 i)], []⟩) (fun i => n - i) (fun i => i ≤ n) 0 ?_ ?_
  · simp +contextual (maxSteps := 5000000) only [go_sem, ↓reduceIte]
    exact ⟨rfl, rfl⟩
  intro i hi
  have ha := arF_len i
  by_cases hlt : i < n
  · have hlt' : (i : Int) < n := by omega
    have e1 := arF_succ i
    simp +contextual (maxSteps := 5000000) only [go_sem, ↓reduceIte, hlt, hlt', ha]
    exact ⟨by omega, fun _ => ⟨inR64 (by omega) (by omega), fun _ => ⟨i + 1, ⟨by rw [e1], by simp⟩, by omega, by omega⟩⟩⟩
  · obtain rfl : i = n := by omega
    simp +contextual (maxSteps := 5000000) only [go_sem, ↓reduceIte, hlt, Int.lt_irrefl, Nat.lt_irrefl]
def c_rof (caps args : List D) : Prop × Out := match caps, args with
  | [], [.int .i64 n] => (0 ≤ n ∧ n < 1000000, .ret (.str (arF n.toNat)))
  | _, _ => (False, .ret .any)
theorem st_rof : StC Tryz.prog 108 c_rof := by
  intro caps args; unfold c_rof; split
  · rename_i n
    rintro ⟨h1, h2⟩
    have := fc_rof n.toNat (by omega)
    rw [show ((n.toNat : Nat) : Int) = n by omega] at this
    exact this
  · exact fun h => h.elim
theorem fc_rfind (s p : List UInt8) (hs : s.length < 1000000000) (hp : p.length < 1000000000) : FC Tryz.prog 107 [] [.str s, .str p] (.ret (.int .i64 (Lib.index s p))) := by
  refine fc_M (fn := Tryz.f107) (C := (tab [] [])) (rs := [4]) mixed (by kernel_rfl) (by kernel_rfl) rfl rfl (by kernel_rfl) (by intro ys h; cases h) ?_
  simp +contextual (maxSteps := 5000000) only [go_sem, ↓reduceIte]
  refine M_loopI (fun i : Nat => ⟨[(0, .str s), (1, .str p), (5, .int .i64 i)], []⟩) (fun i => s.length + 1 - i) (fun i => i ≤ s.length ∧ ixU (Lib.index (s.drop i) p) i = Lib.index s p) 0 ?_ ?_
  · simp +contextual (maxSteps := 5000000) only [go_sem, ↓reduceIte]
    refine ⟨rfl, ?_⟩
    simp only [ixU, List.drop_zero]
    split <;> omega
  rintro i ⟨hi, hI⟩
  by_cases hlt : i + p.length ≤ s.length
  · have hlt' : (i : Int) + p.length ≤ s.length := by omega
    have hsub : i + p.length - i = p.length := by omega
    have hc1 : (i : Int) ≤ (i : Int) + p.length := by omega
    by_cases he : (s.drop i).take p.length = p
    · have h0 := idx_hit he (by rw [List.length_drop]; omega)
      rw [h0] at hI
      simp +contextual (maxSteps := 5000000) only [go_sem, ↓reduceIte, hlt', he, hsub, eI_at, eI_set, List.length_set, tn_add, tn_add1, tn_sub, tn_sub1, sh1, sh1b, half_cast]
      refine fun _ => ⟨inR64 (by omega) (by omega), fun _ _ => ⟨hc1, fun _ => ?_⟩⟩
      rw [← hI]; simp [ixU]
    · obtain ⟨h1, h2⟩ := idx_miss hlt he
      rw [h2] at hI
      simp +contextual (maxSteps := 5000000) only [go_sem, ↓reduceIte, hlt', he, hsub, eI_at, eI_set, List.length_set, tn_add, tn_add1, tn_sub, tn_sub1, sh1, sh1b, half_cast]
      exact fun _ => ⟨inR64 (by omega) (by omega), fun _ _ => ⟨hc1, fun _ => ⟨inR64 (by omega) (by omega), fun _ => ⟨i + 1, by simp, by omega, by omega, hI⟩⟩⟩⟩
  · have hlt' : ¬ (i : Int) + p.length ≤ s.length := by omega
    rw [idx_none hlt hi] at hI
    simp +contextual (maxSteps := 5000000) only [go_sem, ↓reduceIte, hlt', eI_at, eI_set, List.length_set, tn_add, tn_add1, tn_sub, tn_sub1, sh1, sh1b, half_cast]
    exact fun _ => ⟨inR64 (by omega) (by omega), fun _ _ => hI⟩
def c_rfind (caps args : List D) : Prop × Out := match caps, args with
  | [], [.str s, .str p] => (s.length < 1000000000 ∧ p.length < 1000000000, .ret (.int .i64 (Lib.index s p)))
  | _, _ => (False, .ret .any)
theorem st_rfind : StC Tryz.prog 107 c_rfind := by
  intro caps args; unfold c_rfind; split
  · exact fun h => fc_rfind _ _ h.1 h.2
  · exact fun h => h.elim
theorem idx_suff (s : List UInt8) (n : Nat) (h : 0 ≤ Lib.index s (arF (n + 1))) : 0 ≤ Lib.index s (arF n) := by
  induction s with
  | nil => simp [Lib.index, arF] at h
  | cons b l ih =>
    simp only [Lib.index] at h ⊢
    by_cases h1 : (arF n).isPrefixOf (b :: l) = true
    · rw [if_pos h1]; omega
    · rw [if_neg h1]
      have hge := Lib.index_ge l (arF n)
      by_cases h2 : (arF (n + 1)).isPrefixOf (b :: l) = true
      · -- the arrow begins here: the shorter one begins behind
        obtain ⟨t, ht⟩ := List.isPrefixOf_iff_prefix.1 h2
        rw [arF_succ] at ht
        have ht2 : arF n ++ t = l := by
          have := congrArg List.tail ht
          simpa using this
        have h3 : Lib.index l (arF n) = 0 := idx_hit (by rw [← ht2]; simp) (by rw [← ht2]; simp)
        rw [h3]; simp
      · rw [if_neg h2] at h
        have hge2 := Lib.index_ge l (arF (n + 1))
        have h4 : 0 ≤ Lib.index l (arF (n + 1)) := by
          by_cases h5 : Lib.index l (arF (n + 1)) = -1
          · simp [h5] at h
          · omega
        have := ih h4
        have h6 : (Lib.index l (arF n) == -1) = false := by
          rw [beq_eq_false_iff_ne]; omega
        rw [h6]; simp; omega
theorem idx_down (s : List UInt8) {n m : Nat} (hnm : n ≤ m) (h : 0 ≤ Lib.index s (arF m)) : 0 ≤ Lib.index s (arF n) := by
  induction m with
  | zero => obtain rfl : n = 0 := by omega
            exact h
  | succ m ih =>
    rcases Nat.lt_or_ge n (m + 1) with h1 | h1
    · exact ih (by omega) (idx_suff s m h)
    · obtain rfl : n = m + 1 := by omega
      exact h
theorem idx_len {s : List UInt8} {n : Nat} (h : 0 ≤ Lib.index s (arF n)) : n + 1 ≤ s.length := by
  rcases Nat.lt_or_ge s.length (n + 1) with h1 | h1
  · rw [idx_short _ _ (by rw [arF_len]; exact h1)] at h; omega
  · exact h1
def nxF (s : List UInt8) : Nat → Nat → Nat
  | 0, n => n
  | k + 1, n => if 0 ≤ Lib.index s (arF n) then nxF s k (n + 1) else n
theorem nxF_spec (s : List UInt8) : ∀ (k n : Nat), s.length ≤ k + n → n ≤ nxF s k n ∧ ¬ 0 ≤ Lib.index s (arF (nxF s k n)) ∧ (∀ m, n ≤ m → m < nxF s k n → 0 ≤ Lib.index s (arF m)) ∧ (nxF s k n ≤ s.length ∨ nxF s k n = n)
  | 0, n, h => by
    simp only [nxF]
    exact ⟨Nat.le_refl _, fun h2 => by have := idx_len h2; omega, fun m h1 h2 => by omega, by simp⟩
  | k + 1, n, h => by
    simp only [nxF]
    by_cases hc : 0 ≤ Lib.index s (arF n)
    · rw [if_pos hc]
      obtain ⟨h1, h2, h3, h4⟩ := nxF_spec s k (n + 1) (by omega)
      refine ⟨by omega, h2, fun m hm1 hm2 => ?_, ?_⟩
      · rcases Nat.lt_or_ge n m with h5 | h5
        · exact h3 m (by omega) hm2
        · obtain rfl : m = n := by omega
          exact hc
      · have := idx_len hc
        rcases h4 with h4 | h4
        · exact .inl h4
        · left; omega
    · rw [if_neg hc]
      exact ⟨Nat.le_refl _, hc, fun m h1 h2 => by omega, .inr rfl⟩
theorem nxF_step {s : List UInt8} {n : Nat} (h : 0 ≤ Lib.index s (arF n)) : nxF s (s.length - n) n = nxF s (s.length - (n + 1)) (n + 1) := by
  have := idx_len h
  obtain ⟨k, hk⟩ : ∃ k, s.length - n = k + 1 := ⟨s.length - n - 1, by omega⟩
  rw [hk, nxF, if_pos h, show s.length - (n + 1) = k by omega]
theorem nxF_stop {s : List UInt8} {n : Nat} (h : ¬ 0 ≤ Lib.index s (arF n)) : nxF s (s.length - n) n = n := by
  cases hk : s.length - n with
  | zero => rfl
  | succ k => rw [nxF, if_neg h]
def arN (cells : List (List UInt8)) (n : Nat) : Nat := cells.foldl (fun n s => nxF s (s.length - n) n) n
theorem arN_spec (b : Nat) : ∀ (cells : List (List UInt8)) (n : Nat), (∀ s ∈ cells, s.length < b) → n ≤ b → n ≤ arN cells n ∧ arN cells n ≤ b ∧ (∀ s ∈ cells, ¬ 0 ≤ Lib.index s (arF (arN cells n))) ∧ ∀ m, n ≤ m → m < arN cells n → ∃ s ∈ cells, 0 ≤ Lib.index s (arF m)
  | [], n, _, hb => ⟨Nat.le_refl _, hb, fun s hs => by simp at hs, fun m h1 h2 => by simp only [arN, List.foldl_nil] at h2; omega⟩
  | s :: r, n, h, hb => by
    obtain ⟨h1, h2, h3, h4⟩ := nxF_spec s (s.length - n) n (by omega)
    have hs := h s (by simp)
    have e : arN (s :: r) n = arN r (nxF s (s.length - n) n) := rfl
    obtain ⟨g1, g2, g3, g4⟩ := arN_spec b r (nxF s (s.length - n) n) (fun x hx => h x (by simp [hx])) (by omega)
    rw [e]
    refine ⟨by omega, g2, fun x hx => ?_, fun m hm1 hm2 => ?_⟩
    · rcases List.mem_cons.1 hx with rfl | hx
      · exact fun h5 => h2 (idx_down _ g1 h5)
      · exact g3 x hx
    · rcases Nat.lt_or_ge m (nxF s (s.length - n) n) with h5 | h5
      · exact ⟨s, by simp, h3 m hm1 h5⟩
      · obtain ⟨x, hx, h6⟩ := g4 m h5 hm2
        exact ⟨x, by simp [hx], h6⟩
theorem arN_step {cells : List (List UInt8)} {i n : Nat} (h : i < cells.length) : arN (cells.drop i) n = arN (cells.drop (i + 1)) (nxF (cells.getD i []) ((cells.getD i []).length - n) n) := by
  rw [drop_getD (d := []) h]; rfl
def awF (cells : List (List UInt8)) : List UInt8 := arF (arN cells 1)
theorem fc_rArrow (l : List (List UInt8)) (hl : l.length < 1000000000) (hc : ∀ s ∈ l, s.length < 900000) : FC Tryz.prog 72 [] [.sl 1 (l.map eS)] (.ret (.str (awF l))) := by
  refine fc_M (fn := Tryz.f72) (C := (tab [(108, c_rof), (107, c_rfind)] [] [])) (rs := [2]) mixed (by kernel_rfl) (by kernel_rfl) rfl rfl (by kernel_rfl) (by intro ys h; cases h) ?_
  simp +contextual (maxSteps := 5000000) only [go_sem, ↓reduceIte]
  refine M_loopI (fun s : Nat × Nat => ⟨[(0, .sl 1 (l.map eS)), (3, .int .i64 s.2), (4, .int .i64 s.1)], []⟩) (fun s => l.length - s.1) (fun s => (s.1 ≤ l.length ∧ 1 ≤ s.2 ∧ s.2 ≤ 900000) ∧ arF (arN (l.drop s.1) s.2) = awF l) (0, 1) ?_ ?_
  · simp +contextual (maxSteps := 5000000) only [go_sem, ↓reduceIte]
    exact ⟨⟨rfl, rfl⟩, rfl⟩
  rintro ⟨i, n⟩ ⟨⟨hi, hn1, hn2⟩, hR⟩
  simp only at hi hn1 hn2 hR ⊢
  by_cases hlt : i < l.length
  rotate_left
  · rw [List.drop_eq_nil_of_le (by omega)] at hR
    have hn3 : (n : Int) < 1000000 := by omega
    have hn0 : (0 : Int) ≤ n := by omega
    have hR' : arF n = awF l := hR
    simp +contextual (maxSteps := 5000000) only [go_sem, ↓reduceIte, hlt, c_rof, st_rof, hn3, hn0, hR', Int.toNat_natCast]
  have hat := eS_at l i hlt
  have hsl := hc _ (getD_mem (d := []) hlt)
  rw [arN_step hlt] at hR
  generalize l.getD i [] = s at hat hsl hR
  simp +contextual (maxSteps := 5000000) only [go_sem, ↓reduceIte, hlt]
  refine fun _ => M_loopI (fun m : Nat => ⟨[(0, .sl 1 (l.map eS)), (3, .int .i64 m), (4, .int .i64 i)], []⟩) (fun m => s.length + 1 - m) (fun m => (1 ≤ m ∧ m ≤ 900000) ∧ nxF s (s.length - m) m = nxF s (s.length - n) n) n ?_ ?_
  · simp +contextual (maxSteps := 5000000) only [go_sem, ↓reduceIte]
    exact ⟨hn1, hn2⟩
  rintro m ⟨⟨hm1, hm2⟩, hm⟩
  have hm3 : (m : Int) < 1000000 := by omega
  have hm0 : (0 : Int) ≤ m := by omega
  have hal := arF_len m
  have hal2 : (arF m).length < 1000000000 := by omega
  have hsl2 : s.length < 1000000000 := by omega
  by_cases hq : 0 ≤ Lib.index s (arF m)
  · have hst := nxF_step hq
    have hil := idx_len hq
    simp +contextual (maxSteps := 5000000) only [go_sem, ↓reduceIte, hlt, hat, c_rof, st_rof, c_rfind, st_rfind, hm3, hm0, hal2, hsl2, hq, Int.toNat_natCast]
    exact ⟨inR64 (by omega) (by omega), fun _ => ⟨m + 1, by simp, by omega, by omega, by rw [← hst, hm]⟩⟩
  · rw [nxF_stop hq] at hm
    simp +contextual (maxSteps := 5000000) only [go_sem, ↓reduceIte, hlt, hat, c_rof, st_rof, c_rfind, st_rfind, hm3, hm0, hal2, hsl2, hq, Int.toNat_natCast]
    exact ⟨inR64 (by omega) (by omega), fun _ => ⟨(i + 1, m), ⟨rfl, by simp⟩, by simp only; omega, ⟨by simp only; omega, hm1, hm2⟩, by simp only; rw [hm]; exact hR⟩⟩
def c_rArrow (caps args : List D) : Prop × Out := match caps, args with
  | [], [.sl 1 rows] => ((rows = (rows.map dS).map eS ∧ rows.length < 1000000000) ∧ ∀ s ∈ rows.map dS, s.length < 900000, .ret (.str (awF (rows.map dS))))
  | _, _ => (False, .ret .any)
theorem st_rArrow : StC Tryz.prog 72 c_rArrow := by
  intro caps args; unfold c_rArrow; split
  · rename_i rows
    rintro ⟨⟨h1, h2⟩, h3⟩
    have := fc_rArrow (rows.map dS) (by simpa using h2) h3
    rw [← h1] at this
    exact this
  · exact fun h => h.elim
end Go.Proofs.YtlabdffgcciepaaGreatDoor
