/-
  What the functions compute that the law of this claim reaches. By an AI agent.
-/
import Derived.Test.YtojhjhnmfjdbeaaProg
import Derived.Test.YtojhjhnmfjdbeaaRows
import Derived.WalkKit
import Derived.ProofKit
import Derived.Test.YtojhjhnmfjdbeaaTj
set_option linter.unusedSimpArgs false
set_option linter.unusedVariables false

/- The types that the program uses, read off its table. -/
namespace Go.Proofs.Ytojhjhnmfjdbeaa
open Go.Tn
theorem y1 : tyOf Try.prog 1 = ⟨.func, [.nilFunc], [], 0, 0, false, 0, 8⟩ := by kernel_rfl
theorem y2 : tyOf Try.prog 2 = ⟨(.int .i64), [(.int .i64 0)], [], 0, 0, false, 0, 8⟩ := by kernel_rfl
theorem y3 : tyOf Try.prog 3 = ⟨(.int .i64), [(.int .i64 0)], [], 0, 0, false, 0, 8⟩ := by kernel_rfl
theorem y4 : tyOf Try.prog 4 = ⟨.bool, [(.bool false)], [], 0, 0, false, 0, 1⟩ := by kernel_rfl
theorem y5 : tyOf Try.prog 5 = ⟨(.int .u8), [(.int .u8 0)], [], 0, 0, false, 0, 1⟩ := by kernel_rfl
theorem y6 : tyOf Try.prog 6 = ⟨(.int .u8), [(.int .u8 0)], [], 0, 0, false, 0, 1⟩ := by kernel_rfl
theorem y7 : tyOf Try.prog 7 = ⟨.struct, [(.int .i64 0), (.int .i64 0), (.bool false), (.int .u8 0)], [(0, 1, false), (1, 1, false), (2, 1, false), (3, 1, false)], 0, 0, true, 0, 24⟩ := by kernel_rfl
theorem y8 : tyOf Try.prog 8 = ⟨.struct, [(.int .i64 0), (.int .i64 0), (.bool false), (.int .u8 0)], [(0, 1, false), (1, 1, false), (2, 1, false), (3, 1, false)], 0, 0, true, 0, 24⟩ := by kernel_rfl
theorem y9 : tyOf Try.prog 9 = ⟨.str, [(.string ⟨#[]⟩)], [], 0, 0, false, 0, 16⟩ := by kernel_rfl
theorem y10 : tyOf Try.prog 10 = ⟨.str, [(.string ⟨#[]⟩)], [], 0, 0, false, 0, 16⟩ := by kernel_rfl
theorem y11 : tyOf Try.prog 11 = ⟨.str, [(.string ⟨#[]⟩)], [], 0, 0, false, 0, 16⟩ := by kernel_rfl
theorem y12 : tyOf Try.prog 12 = ⟨(.int .u64), [(.int .u64 0)], [], 0, 0, false, 0, 8⟩ := by kernel_rfl
theorem y13 : tyOf Try.prog 13 = ⟨.struct, [(.string ⟨#[]⟩), (.int .u64 0)], [(0, 1, false), (1, 1, false)], 0, 0, false, 0, 24⟩ := by kernel_rfl
theorem y14 : tyOf Try.prog 14 = ⟨.struct, [(.string ⟨#[]⟩), (.int .u64 0)], [(0, 1, false), (1, 1, false)], 0, 0, false, 0, 24⟩ := by kernel_rfl
theorem y15 : tyOf Try.prog 15 = ⟨.ptr, [(.pointer none)], [], 94, 0, false, 0, 8⟩ := by kernel_rfl
theorem y16 : tyOf Try.prog 16 = ⟨.ptr, [(.pointer none)], [], 97, 0, false, 0, 8⟩ := by kernel_rfl
theorem y17 : tyOf Try.prog 17 = ⟨.ptr, [(.pointer none)], [], 106, 0, false, 0, 8⟩ := by kernel_rfl
theorem y18 : tyOf Try.prog 18 = ⟨.struct, [(.pointer none)], [(0, 1, false)], 0, 0, false, 0, 8⟩ := by kernel_rfl
theorem y19 : tyOf Try.prog 19 = ⟨.struct, [(.pointer none)], [(0, 1, false)], 0, 0, false, 0, 8⟩ := by kernel_rfl
theorem y20 : tyOf Try.prog 20 = ⟨.iface, [.nilIface], [], 0, 0, false, 0, 16⟩ := by kernel_rfl
theorem y21 : tyOf Try.prog 21 = ⟨(.int .i32), [(.int .i32 0)], [], 0, 0, false, 0, 4⟩ := by kernel_rfl
theorem y22 : tyOf Try.prog 22 = ⟨.slice, [(.slice none 0 0)], [], 54, 2, true, 0, 24⟩ := by kernel_rfl
theorem y23 : tyOf Try.prog 23 = ⟨.struct, [(.slice none 0 0), (.slice none 0 0), (.slice none 0 0), (.int .i64 0), (.int .i64 0), (.int .i64 0)], [(0, 1, false), (1, 1, false), (2, 1, false), (3, 1, false), (4, 1, false), (5, 1, false)], 0, 0, false, 0, 96⟩ := by kernel_rfl
theorem y24 : tyOf Try.prog 24 = ⟨.struct, [(.slice none 0 0), (.slice none 0 0), (.slice none 0 0), (.int .i64 0), (.int .i64 0), (.int .i64 0)], [(0, 1, false), (1, 1, false), (2, 1, false), (3, 1, false), (4, 1, false), (5, 1, false)], 0, 0, false, 0, 96⟩ := by kernel_rfl
theorem y25 : tyOf Try.prog 25 = ⟨.func, [.nilFunc], [], 0, 0, false, 0, 8⟩ := by kernel_rfl
theorem y26 : tyOf Try.prog 26 = ⟨.func, [.nilFunc], [], 0, 0, false, 0, 8⟩ := by kernel_rfl
theorem y27 : tyOf Try.prog 27 = ⟨.slice, [(.slice none 0 0)], [], 52, 3, true, 0, 24⟩ := by kernel_rfl
theorem y28 : tyOf Try.prog 28 = ⟨(.int .i64), [(.int .i64 0)], [], 0, 0, false, 0, 8⟩ := by kernel_rfl
theorem y30 : tyOf Try.prog 30 = ⟨.func, [.nilFunc], [], 0, 0, false, 0, 8⟩ := by kernel_rfl
theorem y31 : tyOf Try.prog 31 = ⟨.slice, [(.slice none 0 0)], [], 51, 3, true, 0, 24⟩ := by kernel_rfl
theorem y33 : tyOf Try.prog 33 = ⟨.func, [.nilFunc], [], 0, 0, false, 0, 8⟩ := by kernel_rfl
theorem y34 : tyOf Try.prog 34 = ⟨.func, [.nilFunc], [], 0, 0, false, 0, 8⟩ := by kernel_rfl
theorem y35 : tyOf Try.prog 35 = ⟨.func, [.nilFunc], [], 0, 0, false, 0, 8⟩ := by kernel_rfl
theorem y36 : tyOf Try.prog 36 = ⟨.func, [.nilFunc], [], 0, 0, false, 0, 8⟩ := by kernel_rfl
theorem y37 : tyOf Try.prog 37 = ⟨.slice, [(.slice none 0 0)], [], 3, 1, false, 0, 24⟩ := by kernel_rfl
theorem y38 : tyOf Try.prog 38 = ⟨.func, [.nilFunc], [], 0, 0, false, 0, 8⟩ := by kernel_rfl
theorem y39 : tyOf Try.prog 39 = ⟨.func, [.nilFunc], [], 0, 0, false, 0, 8⟩ := by kernel_rfl
theorem y40 : tyOf Try.prog 40 = ⟨.func, [.nilFunc], [], 0, 0, false, 0, 8⟩ := by kernel_rfl
theorem y41 : tyOf Try.prog 41 = ⟨.slice, [(.slice none 0 0)], [], 9, 1, false, 0, 24⟩ := by kernel_rfl
theorem y42 : tyOf Try.prog 42 = ⟨.slice, [(.slice none 0 0)], [], 41, 1, false, 0, 24⟩ := by kernel_rfl
theorem y43 : tyOf Try.prog 43 = ⟨.struct, [(.slice none 0 0), (.slice none 0 0)], [(0, 1, false), (1, 1, false)], 0, 0, false, 0, 48⟩ := by kernel_rfl
theorem y44 : tyOf Try.prog 44 = ⟨.struct, [(.slice none 0 0), (.slice none 0 0)], [(0, 1, false), (1, 1, false)], 0, 0, false, 0, 48⟩ := by kernel_rfl
theorem y45 : tyOf Try.prog 45 = ⟨.func, [.nilFunc], [], 0, 0, false, 0, 8⟩ := by kernel_rfl
theorem y46 : tyOf Try.prog 46 = ⟨.func, [.nilFunc], [], 0, 0, false, 0, 8⟩ := by kernel_rfl
theorem y47 : tyOf Try.prog 47 = ⟨.func, [.nilFunc], [], 0, 0, false, 0, 8⟩ := by kernel_rfl
theorem y48 : tyOf Try.prog 48 = ⟨.func, [.nilFunc], [], 0, 0, false, 0, 8⟩ := by kernel_rfl
theorem y49 : tyOf Try.prog 49 = ⟨.func, [.nilFunc], [], 0, 0, false, 0, 8⟩ := by kernel_rfl
theorem y50 : tyOf Try.prog 50 = ⟨.struct, [(.int .i64 0), (.int .i64 0), (.int .i64 0)], [(0, 1, false), (1, 1, false), (2, 1, false)], 0, 0, true, 0, 24⟩ := by kernel_rfl
theorem y51 : tyOf Try.prog 51 = ⟨.struct, [(.int .i64 0), (.int .i64 0), (.int .i64 0)], [(0, 1, false), (1, 1, false), (2, 1, false)], 0, 0, true, 0, 24⟩ := by kernel_rfl
theorem y52 : tyOf Try.prog 52 = ⟨.struct, [(.int .i64 0), (.int .i64 0), (.int .i64 0)], [(0, 1, false), (1, 1, false), (2, 1, false)], 0, 0, true, 0, 24⟩ := by kernel_rfl
theorem y53 : tyOf Try.prog 53 = ⟨.struct, [(.int .i64 0), (.int .i64 0)], [(0, 1, false), (1, 1, false)], 0, 0, true, 0, 16⟩ := by kernel_rfl
theorem y54 : tyOf Try.prog 54 = ⟨.struct, [(.int .i64 0), (.int .i64 0)], [(0, 1, false), (1, 1, false)], 0, 0, true, 0, 16⟩ := by kernel_rfl
theorem y55 : tyOf Try.prog 55 = ⟨.func, [.nilFunc], [], 0, 0, false, 0, 8⟩ := by kernel_rfl
theorem y56 : tyOf Try.prog 56 = ⟨.func, [.nilFunc], [], 0, 0, false, 0, 8⟩ := by kernel_rfl
theorem y57 : tyOf Try.prog 57 = ⟨.func, [.nilFunc], [], 0, 0, false, 0, 8⟩ := by kernel_rfl
theorem y58 : tyOf Try.prog 58 = ⟨.func, [.nilFunc], [], 0, 0, false, 0, 8⟩ := by kernel_rfl
theorem y59 : tyOf Try.prog 59 = ⟨.slice, [(.slice none 0 0)], [], 28, 1, false, 0, 24⟩ := by kernel_rfl
theorem y60 : tyOf Try.prog 60 = ⟨.func, [.nilFunc], [], 0, 0, false, 0, 8⟩ := by kernel_rfl
theorem y61 : tyOf Try.prog 61 = ⟨.func, [.nilFunc], [], 0, 0, false, 0, 8⟩ := by kernel_rfl
theorem y62 : tyOf Try.prog 62 = ⟨.func, [.nilFunc], [], 0, 0, false, 0, 8⟩ := by kernel_rfl
theorem y63 : tyOf Try.prog 63 = ⟨.func, [.nilFunc], [], 0, 0, false, 0, 8⟩ := by kernel_rfl
theorem y64 : tyOf Try.prog 64 = ⟨.func, [.nilFunc], [], 0, 0, false, 0, 8⟩ := by kernel_rfl
theorem y65 : tyOf Try.prog 65 = ⟨.func, [.nilFunc], [], 0, 0, false, 0, 8⟩ := by kernel_rfl
theorem y66 : tyOf Try.prog 66 = ⟨.array, [.nilFunc, .nilFunc, .nilFunc], [], 65, 1, false, 3, 24⟩ := by kernel_rfl
theorem y67 : tyOf Try.prog 67 = ⟨.func, [.nilFunc], [], 0, 0, false, 0, 8⟩ := by kernel_rfl
theorem y68 : tyOf Try.prog 68 = ⟨.func, [.nilFunc], [], 0, 0, false, 0, 8⟩ := by kernel_rfl
theorem y69 : tyOf Try.prog 69 = ⟨.func, [.nilFunc], [], 0, 0, false, 0, 8⟩ := by kernel_rfl
theorem y70 : tyOf Try.prog 70 = ⟨.func, [.nilFunc], [], 0, 0, false, 0, 8⟩ := by kernel_rfl
theorem y71 : tyOf Try.prog 71 = ⟨.map, [(.map none)], [], 3, 0, false, 3, 8⟩ := by kernel_rfl
theorem y72 : tyOf Try.prog 72 = ⟨.func, [.nilFunc], [], 0, 0, false, 0, 8⟩ := by kernel_rfl
theorem y73 : tyOf Try.prog 73 = ⟨.func, [.nilFunc], [], 0, 0, false, 0, 8⟩ := by kernel_rfl
theorem y74 : tyOf Try.prog 74 = ⟨.func, [.nilFunc], [], 0, 0, false, 0, 8⟩ := by kernel_rfl
theorem y75 : tyOf Try.prog 75 = ⟨.func, [.nilFunc], [], 0, 0, false, 0, 8⟩ := by kernel_rfl
theorem y76 : tyOf Try.prog 76 = ⟨.func, [.nilFunc], [], 0, 0, false, 0, 8⟩ := by kernel_rfl
theorem y77 : tyOf Try.prog 77 = ⟨.struct, [(.int .i64 0), (.int .i64 0)], [(0, 1, false), (1, 1, false)], 0, 0, true, 0, 16⟩ := by kernel_rfl
theorem y78 : tyOf Try.prog 78 = ⟨.func, [.nilFunc], [], 0, 0, false, 0, 8⟩ := by kernel_rfl
theorem y79 : tyOf Try.prog 79 = ⟨.func, [.nilFunc], [], 0, 0, false, 0, 8⟩ := by kernel_rfl
theorem y80 : tyOf Try.prog 80 = ⟨.func, [.nilFunc], [], 0, 0, false, 0, 8⟩ := by kernel_rfl
theorem y81 : tyOf Try.prog 81 = ⟨.func, [.nilFunc], [], 0, 0, false, 0, 8⟩ := by kernel_rfl
theorem y82 : tyOf Try.prog 82 = ⟨.func, [.nilFunc], [], 0, 0, false, 0, 8⟩ := by kernel_rfl
theorem y83 : tyOf Try.prog 83 = ⟨.func, [.nilFunc], [], 0, 0, false, 0, 8⟩ := by kernel_rfl
theorem y84 : tyOf Try.prog 84 = ⟨.func, [.nilFunc], [], 0, 0, false, 0, 8⟩ := by kernel_rfl
theorem y85 : tyOf Try.prog 85 = ⟨.func, [.nilFunc], [], 0, 0, false, 0, 8⟩ := by kernel_rfl
theorem y86 : tyOf Try.prog 86 = ⟨.func, [.nilFunc], [], 0, 0, false, 0, 8⟩ := by kernel_rfl
theorem y87 : tyOf Try.prog 87 = ⟨.func, [.nilFunc], [], 0, 0, false, 0, 8⟩ := by kernel_rfl
theorem y88 : tyOf Try.prog 88 = ⟨.func, [.nilFunc], [], 0, 0, false, 0, 8⟩ := by kernel_rfl
theorem y89 : tyOf Try.prog 89 = ⟨.func, [.nilFunc], [], 0, 0, false, 0, 8⟩ := by kernel_rfl
theorem y90 : tyOf Try.prog 90 = ⟨.func, [.nilFunc], [], 0, 0, false, 0, 8⟩ := by kernel_rfl
theorem y91 : tyOf Try.prog 91 = ⟨(.int .u64), [(.int .u64 0)], [], 0, 0, false, 0, 8⟩ := by kernel_rfl
theorem y92 : tyOf Try.prog 92 = ⟨.func, [.nilFunc], [], 0, 0, false, 0, 8⟩ := by kernel_rfl
theorem y93 : tyOf Try.prog 93 = ⟨.struct, [(.pointer none), (.pointer none), (.pointer none), (.string ⟨#[]⟩)], [(0, 1, false), (1, 1, false), (2, 1, false), (3, 1, false)], 0, 0, false, 0, 40⟩ := by kernel_rfl
theorem y94 : tyOf Try.prog 94 = ⟨.struct, [(.pointer none), (.pointer none), (.pointer none), (.string ⟨#[]⟩)], [(0, 1, false), (1, 1, false), (2, 1, false), (3, 1, false)], 0, 0, false, 0, 40⟩ := by kernel_rfl
theorem y95 : tyOf Try.prog 95 = ⟨.array, [], [], 16, 1, false, 0, 0⟩ := by kernel_rfl
theorem y96 : tyOf Try.prog 96 = ⟨.struct, [], [(0, 0, true)], 0, 0, false, 0, 0⟩ := by kernel_rfl
theorem y97 : tyOf Try.prog 97 = ⟨.struct, [], [(0, 0, true)], 0, 0, false, 0, 0⟩ := by kernel_rfl
theorem y98 : tyOf Try.prog 98 = ⟨(.int .u32), [(.int .u32 0)], [], 0, 0, false, 0, 4⟩ := by kernel_rfl
theorem y99 : tyOf Try.prog 99 = ⟨(.int .u8), [(.int .u8 0)], [], 0, 0, false, 0, 1⟩ := by kernel_rfl
theorem y100 : tyOf Try.prog 100 = ⟨(.int .u8), [(.int .u8 0)], [], 0, 0, false, 0, 1⟩ := by kernel_rfl
theorem y101 : tyOf Try.prog 101 = ⟨.func, [.nilFunc], [], 0, 0, false, 0, 8⟩ := by kernel_rfl
theorem y102 : tyOf Try.prog 102 = ⟨.ptr, [(.pointer none)], [], 5, 0, false, 0, 8⟩ := by kernel_rfl
theorem y103 : tyOf Try.prog 103 = ⟨(.int .i32), [(.int .i32 0)], [], 0, 0, false, 0, 4⟩ := by kernel_rfl
theorem y104 : tyOf Try.prog 104 = ⟨(.int .i32), [(.int .i32 0)], [], 0, 0, false, 0, 4⟩ := by kernel_rfl
theorem y105 : tyOf Try.prog 105 = ⟨.struct, [(.int .u64 0), (.int .u64 0), (.int .u32 0), (.int .u8 0), (.int .u8 0), (.int .u8 0), (.int .u8 0), .nilFunc, (.pointer none), (.int .i32 0), (.int .i32 0)], [(0, 1, false), (1, 1, false), (2, 1, false), (3, 1, false), (4, 1, false), (5, 1, false), (6, 1, false), (7, 1, false), (8, 1, false), (9, 1, false), (10, 1, false)], 0, 0, false, 0, 48⟩ := by kernel_rfl
theorem y106 : tyOf Try.prog 106 = ⟨.struct, [(.int .u64 0), (.int .u64 0), (.int .u32 0), (.int .u8 0), (.int .u8 0), (.int .u8 0), (.int .u8 0), .nilFunc, (.pointer none), (.int .i32 0), (.int .i32 0)], [(0, 1, false), (1, 1, false), (2, 1, false), (3, 1, false), (4, 1, false), (5, 1, false), (6, 1, false), (7, 1, false), (8, 1, false), (9, 1, false), (10, 1, false)], 0, 0, false, 0, 48⟩ := by kernel_rfl
theorem mixed : Try.prog.follows .mixedOrders = true := by kernel_rfl
theorem funcs_size : Try.prog.funcs.size = 79 := by kernel_rfl
theorem funcs_some (g : Nat) : (Try.prog.funcs[g]?).isSome = decide (g < 79) := by
  rw [← funcs_size]
  by_cases h : g < Try.prog.funcs.size
  · rw [Array.getElem?_eq_getElem h]; simp [h]
  · rw [Array.getElem?_eq_none (by omega)]; simp [h]
attribute [go_sem] y1 y2 y3 y4 y5 y6 y7 y8 y9 y10 y11 y12 y13 y14 y15 y16 y17 y18 y19 y20 y21 y22 y23 y24 y25 y26 y27 y28 y30 y31 y33 y34 y35 y36 y37 y38 y39 y40 y41 y42 y43 y44 y45 y46 y47 y48 y49 y50 y51 y52 y53 y54 y55 y56 y57 y58 y59 y60 y61 y62 y63 y64 y65 y66 y67 y68 y69 y70 y71 y72 y73 y74 y75 y76 y77 y78 y79 y80 y81 y82 y83 y84 y85 y86 y87 y88 y89 y90 y91 y92 y93 y94 y95 y96 y97 y98 y99 y100 y101 y102 y103 y104 y105 y106 funcs_some
end Go.Proofs.Ytojhjhnmfjdbeaa

set_option linter.unusedSimpArgs false
namespace Go.Proofs.Ytojhjhnmfjdbeaa
open Go.Tn
set_option maxHeartbeats 4000000
set_option maxRecDepth 100000
theorem fcm_swapRange (l : List Int) (a b k : Nat) (f : D) (n : Nat) (hn : l.length = n) (h1 : a + k ≤ b) (h2 : b + k ≤ n) (h3 : n < 1000000000) :
    FCM Try.prog 60 [(true, .vec 1000 n), (false, .int .i64 a), (false, .int .i64 b), (false, .int .i64 k), (false, f)] [(1000, .vec 3 1 (l.map eI) 0)] [(1000, .vec 3 1 ((Ps.swr l a b k).map eI) 0)] (.ret (.tup [])) := by
  refine fcm_M (fn := Try.f60) (C := (tab [] [])) (rs := []) mixed (by kernel_rfl) (by kernel_rfl) rfl rfl (by kernel_rfl) ?_ ?_
  · simp +contextual (maxSteps := 5000000) only [go_sem, ↓reduceIte]
  simp +contextual (maxSteps := 5000000) only [go_sem, ↓reduceIte]
  refine M_loopI (fun i : Nat => ⟨[(0, .vec 1000 n), (1, .int .i64 a), (2, .int .i64 b), (3, .int .i64 k), (10, .int .i64 i)], [(1000, .vec 3 1 ((Ps.swr l a b i).map eI) 0)]⟩) (fun i => k - i) (fun i => i ≤ k) 0 ?_ ?_
  · simp +contextual (maxSteps := 5000000) only [go_sem, ↓reduceIte]
    simp [Ps.swr_zero]
  · intro i hi
    have hlen := Ps.swr_len (l := l) (a := a) (b := b) (n := i) (by omega) (by omega)
    simp +contextual (maxSteps := 5000000) only [go_sem, ↓reduceIte, eI_at, eI_set, List.length_set, tn_add]
    simp only [aa, inR_iff]
    split
    · rename_i hlt
      and_intros
      all_goals first | omega | skip
      refine ⟨i + 1, ⟨by omega, ?_⟩, by omega, by omega⟩
      rw [← Ps.swr_succ 0 (by omega) (by omega)]
      rfl
    · rename_i hge
      have : i = k := by omega
      subst this
      rfl

def cm_sr1 (i n : Nat) (a b k : Int) : Option LObj → MS
  | some (.vec e 1 rows 0) => .yes ((e = 3 ∧ rows = (rows.map dI).map eI) ∧ (rows.length = n ∧ n < 1000000000) ∧ (0 ≤ a ∧ 0 ≤ k ∧ a + k ≤ b ∧ b + k ≤ n)) [i] [(i, .vec e 1 ((Ps.swr (rows.map dI) a.toNat b.toNat k.toNat).map eI) 0)] (.ret (.tup []))
  | _ => .bad
def cm_sr (ds : List D) (H : Hp) : MS := match ds with | [.vec i n, .int .i64 a, .int .i64 b, .int .i64 k, _] => cm_sr1 i n a b k (H i) | _ => .bad
theorem objs_one {H : Hp} {i : Nat} {o : LObj} (h : H i = some o) : objs H [i] = [(i, o)] := by simp only [objs, h, objs1]
theorem stm_sr : StMC Try.prog 60 [0] cm_sr := by
  intro ds H pre mu o1 out h hp
  unfold cm_sr at h
  split at h
  · rename_i i n a b k f
    unfold cm_sr1 at h
    split at h
    · rename_i e rows hi
      cases h
      obtain ⟨⟨rfl, hr⟩, ⟨rfl, h3⟩, ha, hk, h1, h2⟩ := hp
      rw [objs_one hi]
      have := (fcm_swapRange (rows.map dI) a.toNat b.toNat k.toNat f rows.length (by simp) (by omega) (by omega) h3).one i trivial (by simp [plainO])
      rw [← hr, Int.toNat_of_nonneg ha, Int.toNat_of_nonneg (by omega), Int.toNat_of_nonneg hk] at this
      simp only [renF, ren1, renLO, renO, renM, ren, renL, sw_l] at this
      exact this
    · cases h
  · cases h
theorem fcm_rotate (l : List Int) (a m b : Nat) (f : D) (hf : cleanL [f] = true) (n : Nat) (hn : l.length = n) (h1 : a < m) (h2 : m < b) (h4 : b ≤ n) (h3 : n < 1000000000) :
    FCM Try.prog 59 [(true, .vec 1000 n), (false, .int .i64 a), (false, .int .i64 m), (false, .int .i64 b), (false, f)] [(1000, .vec 3 1 (l.map eI) 0)] [(1000, .vec 3 1 ((Ps.rot l a m b).map eI) 0)] (.ret (.tup [])) := by
  have cf := clr_of hf
  refine fcm_M (fn := Try.f59) (C := (tab [] [(60, [0], cm_sr)])) (rs := []) mixed (by kernel_rfl) (by kernel_rfl) rfl rfl (by kernel_rfl) ?_ ?_
  · simp +contextual (maxSteps := 5000000) only [go_sem, ↓reduceIte]
  simp +contextual (maxSteps := 5000000) only [go_sem, ↓reduceIte]
  simp only [aa, inR_iff]
  and_intros
  all_goals first | omega | skip
  refine M_loopI (fun s : List Int × Nat × Nat => ⟨[(0, .vec 1000 n), (1, .int .i64 a), (2, .int .i64 m), (3, .int .i64 b), (4, f), (10, .int .i64 s.2.1), (11, .int .i64 s.2.2)], [(1000, .vec 3 1 (s.1.map eI) 0)]⟩) (fun s => s.2.1 + s.2.2)
    (fun s => s.1.length = n ∧ 0 < s.2.1 ∧ 0 < s.2.2 ∧ s.2.1 ≤ m ∧ m + s.2.2 ≤ n ∧ Ps.rot s.1 (m - s.2.1) m (m + s.2.2) = Ps.rot l a m b) (l, m - a, b - m) ?_ ?_
  · simp +contextual (maxSteps := 5000000) only [go_sem, ↓reduceIte, cf.cv6, cf.rf6, cf.nw6, cf.fz6, cf.wkN, cf.wk, cf.inO]
    have e1 : m - (m - a) = a := by omega
    have e2 : m + (b - m) = b := by omega
    rw [e1, e2]
    and_intros
    all_goals first | omega | trivial
  · intro ⟨k, i, j⟩ hi
    obtain ⟨i1, i2, i3, i4, i5, i6⟩ := hi
    simp only at i1 i2 i3 i4 i5 i6
    subst hn
    have q1 : ((m : Int) - (i : Int)).toNat = m - i := by omega
    have q2 : ((m : Int) + (j : Int) - (i : Int)).toNat = m + j - i := by omega
    simp +contextual (maxSteps := 5000000) only [go_sem, ↓reduceIte, eI_at, eI_set, List.length_set, tn_add, cm_sr, cm_sr1, stm_sr, dI_eI, cf.cv6, cf.rf6, cf.nw6, cf.fz6, cf.wkN, cf.wk, cf.inO]
    simp only [aa, inR_iff, q1, q2]
    split
    · split
      · have := Ps.swr_len (l := k) (a := m - i) (b := m) (n := j) (by omega) (by omega)
        and_intros
        all_goals first | omega | skip
        refine ⟨(Ps.swr k (m - i) m j, i - j, j), ⟨⟨⟨by simp only; omega, rfl⟩, rfl⟩, by simp only; omega, by simp only; omega, by simp only; omega, by simp only; omega, by simp only; omega, by simp only; omega, ?_⟩⟩
        simp only
        rw [show m - (i - j) = m - i + j from by omega, Ps.rot_great (by omega) (by omega) (by omega)]
        exact i6
      · have := Ps.swr_len (l := k) (a := m - i) (b := m + j - i) (n := i) (by omega) (by omega)
        and_intros
        all_goals first | omega | skip
        refine ⟨(Ps.swr k (m - i) (m + j - i) i, i, j - i), ⟨⟨⟨rfl, by simp only; omega⟩, rfl⟩, by simp only; omega, by simp only; omega, by simp only; omega, by simp only; omega, by simp only; omega, by simp only; omega, ?_⟩⟩
        simp only
        rw [show m + (j - i) = m + j - i from by omega, Ps.rot_small (by omega) (by omega) (by omega)]
        exact i6
    · rename_i hij
      have hij : i = j := by omega
      subst hij
      and_intros
      all_goals first | omega | skip
      rw [Ps.rot_same (by omega) (by omega), i6]
end Go.Proofs.Ytojhjhnmfjdbeaa

set_option linter.unusedSimpArgs false
namespace Go.Proofs.Ytojhjhnmfjdbeaa
open Go.Tn
set_option maxHeartbeats 4000000
set_option maxRecDepth 100000
theorem getD_mem {α : Type} {l : List α} {i : Nat} {d : α} (h : i < l.length) : l.getD i d ∈ l := by
  rw [List.getD_eq_getElem?_getD, List.getElem?_eq_getElem h]; exact List.getElem_mem h
/-- the place of the first one -/
def idxI (x : Int) : List Int → Nat → Int
  | [], _ => -1
  | y :: l, k => if y = x then k else idxI x l (k + 1)
theorem idx_le {x : Int} : ∀ {l : List Int} {k : Nat}, idxI x l k < (k + l.length : Nat)
  | [], _ => by simp [idxI]; omega
  | y :: l, k => by
    have := @idx_le x l (k + 1)
    simp only [idxI]; split <;> simp <;> omega
theorem idx_at {x : Int} : ∀ {l : List Int} {k i : Nat}, i < l.length → l.getD i 0 = x → (∀ j, j < i → l.getD j 0 ≠ x) → idxI x l k = (k + i : Nat)
  | [], _, _, h, _, _ => by simp at h
  | y :: l, k, 0, _, h, _ => by simp [idxI] at h ⊢; simp [h]
  | y :: l, k, i + 1, h, h1, h2 => by
    have hy : y ≠ x := by simpa using h2 0 (by omega)
    simp only [idxI, if_neg hy]
    rw [idx_at (k := k + 1) (i := i) (by simpa using h) (by simpa using h1) (fun j hj => by simpa using h2 (j + 1) (by omega))]
    congr 1; omega
theorem idx_no {x : Int} : ∀ {l : List Int} {k : Nat}, (∀ j, j < l.length → l.getD j 0 ≠ x) → idxI x l k = -1
  | [], _, _ => rfl
  | y :: l, k, h => by
    have hy : y ≠ x := by simpa using h 0 (by simp)
    simp only [idxI, if_neg hy]
    exact idx_no fun j hj => by simpa using h (j + 1) (by simpa using hj)
theorem fcm_Index (l : List Int) (n : Nat) (x : Int) (hl : l.length = n) (h3 : n < 1000000000) :
    FCM Try.prog 48 [(true, .vec 1000 n), (false, .int .i64 x)] [(1000, .vec 3 1 (l.map eI) 0)] [(1000, .vec 3 1 (l.map eI) 0)] (.ret (.int .i64 (idxI x l 0))) := by
  refine fcm_M (fn := Try.f48) (C := (tab [] [])) (rs := [4]) mixed (by kernel_rfl) (by kernel_rfl) rfl rfl (by kernel_rfl) ?_ ?_
  · simp +contextual (maxSteps := 5000000) only [go_sem, ↓reduceIte]
  simp +contextual (maxSteps := 5000000) only [go_sem, ↓reduceIte, eI_at, eI_set, List.length_set, tn_add, tn_add1, tn_sub, tn_sub1, sh1, sh1b, half_cast]
  refine ⟨hl, fun _ => ?_⟩
  refine M_loopI (fun i : Nat => ⟨[(0, .vec 1000 n), (1, .int .i64 x), (6, .vec 1000 n), (7, .int .i64 n), (8, .int .i64 i)], [(1000, .vec 3 1 (l.map eI) 0)]⟩) (fun i => n - i) (fun i => i ≤ n ∧ ∀ j, j < i → l.getD j 0 ≠ x) 0 ?_ ?_
  · simp +contextual (maxSteps := 5000000) only [go_sem, ↓reduceIte]
    simp
  · intro i hi
    simp +contextual (maxSteps := 5000000) only [go_sem, ↓reduceIte, eI_at, eI_set, List.length_set, tn_add, tn_add1, tn_sub, tn_sub1, sh1, sh1b, half_cast]
    split
    · rename_i hlt
      refine ⟨hl, fun _ => ?_⟩
      split
      · rename_i he
        rw [idx_at (i := i) (by omega) rfl (fun j hj => by rw [← he]; exact hi.2 j hj)]
        simp
      · rename_i hne
        refine ⟨inR64 (by omega) (by omega), fun _ => ⟨i + 1, by simp, by omega, by omega, fun j hj => ?_⟩⟩
        rcases Nat.lt_succ_iff_lt_or_eq.1 hj with h | rfl
        · exact hi.2 j h
        · exact fun h => hne h.symm
    · rw [idx_no (fun j hj => hi.2 j (by omega))]
theorem fc_by2 (a b c d : Int) (h : InR .i64 (b - d)) : FC Try.prog 44 [] [.agg [.int .i64 a, .int .i64 b], .agg [.int .i64 c, .int .i64 d]] (.ret (.int .i64 (b - d))) := by
  refine fc_M (fn := Try.f44) (C := (tab [] [])) (rs := [4]) mixed (by kernel_rfl) (by kernel_rfl) rfl rfl (by kernel_rfl) (by intro ys h; cases h) ?_
  simp +contextual (maxSteps := 5000000) only [go_sem, ↓reduceIte]
  exact h
theorem fc_second (a b : Int) : FC Try.prog 56 [] [.agg [.int .i64 a, .int .i64 b]] (.ret (.int .i64 b)) := by
  refine fc_M (fn := Try.f56) (C := (tab [] [])) (rs := [2]) mixed (by kernel_rfl) (by kernel_rfl) rfl rfl (by kernel_rfl) (by intro ys h; cases h) ?_
  simp +contextual (maxSteps := 5000000) only [go_sem, ↓reduceIte]
theorem fc_by1 (m : List (Int × Int)) (k : Int) (h : InR .i64 (mlk m k - 1)) : FC Try.prog 54 [.box [.mp (m.map kI) (m.map vI)]] [.int .i64 k] (.ret (.int .i64 (mlk m k - 1))) := by
  refine fc_M (fn := Try.f54) (C := (tab [] [])) (rs := [3]) mixed (by kernel_rfl) (by kernel_rfl) rfl rfl (by kernel_rfl) (by intro ys h; cases h) ?_
  simp +contextual (maxSteps := 5000000) only [go_sem, ↓reduceIte]
  exact h
def byM (ps : List (Int × Int)) : List (Int × Int) := ps.foldl (fun m p => mup m p.1 (p.2 + 1)) []
theorem byM_take {ps : List (Int × Int)} {i : Nat} (h : i < ps.length) : byM (ps.take (i + 1)) = mup (byM (ps.take i)) (ps.getD i (0, 0)).1 ((ps.getD i (0, 0)).2 + 1) := by
  rw [List.take_add_one, List.getElem?_eq_getElem h, byM, byM, List.foldl_append, List.getD_eq_getElem?_getD, List.getElem?_eq_getElem h]; rfl
theorem fc_by (ps : List (Int × Int)) (hb : ∀ p ∈ ps, -1000000000 ≤ p.2 ∧ p.2 ≤ 1000000000) : FC Try.prog 46 [] [.sl 2 (ps.map eP)] (.ret (.fn 54 [] [.box [.mp ((byM ps).map kI) ((byM ps).map vI)]])) := by
  refine fc_M (fn := Try.f46) (C := (tab [] [])) (rs := [2]) mixed (by kernel_rfl) (by kernel_rfl) rfl rfl (by kernel_rfl) (by intro ys h; cases h) ?_
  simp +contextual (maxSteps := 5000000) only [go_sem, ↓reduceIte]
  refine fun _ => M_loopI (fun i : Nat => ⟨[(3, .loc 3 0), (7, .sl 2 (ps.map eP)), (8, .int .i64 ps.length), (9, .int .i64 i)], [(3, .blk [.lmap 6] false), (6, .mp ((byM (ps.take i)).map kI) ((byM (ps.take i)).map vI) false)]⟩) (fun i => ps.length - i) (fun i => i ≤ ps.length) 0 ?_ ?_
  · simp +contextual (maxSteps := 5000000) only [go_sem, ↓reduceIte, byM, List.foldl_nil]
    rfl
  · intro i hi
    simp +contextual (maxSteps := 5000000) only [go_sem, ↓reduceIte, eP_at]
    split
    · rename_i hlt
      have := hb _ (getD_mem (d := (0, 0)) hlt)
      refine ⟨inR64 (by omega) (by omega), fun _ => ⟨inR64 (by omega) (by omega), fun _ => ⟨i + 1, ⟨by simp, ?_⟩, by omega, by omega⟩⟩⟩
      rw [byM_take hlt]; exact ⟨rfl, rfl⟩
    · rw [List.take_of_length_le (by omega)]
end Go.Proofs.Ytojhjhnmfjdbeaa

set_option linter.unusedSimpArgs false
namespace Go.Proofs.Ytojhjhnmfjdbeaa
open Go.Tn
set_option maxHeartbeats 4000000
set_option maxRecDepth 100000
/-! the references -/
def sideF (x : Int × Int × Int) (k : Int) : Int := if k = 0 then x.1 else if k = 1 then x.2.1 else if k = 2 then x.2.2 else -1
theorem fc_Side (x : Int × Int × Int) (k : Int) : FC Try.prog 22 [] [.agg [.int .i64 x.1, .int .i64 x.2.1, .int .i64 x.2.2], .int .i64 k] (.ret (.int .i64 (sideF x k))) := by
  refine fc_M (fn := Try.f22) (C := (tab [] [])) (rs := [4]) mixed (by kernel_rfl) (by kernel_rfl) rfl rfl (by kernel_rfl) (by intro ys h; cases h) ?_
  simp +contextual (maxSteps := 5000000) only [go_sem, ↓reduceIte]
  unfold sideF
  split <;> (try split) <;> (try split) <;> simp_all
def ofF : List (Int × Int) → Int → Int
  | [], _ => -1
  | p :: r, k => if p.1 = k then p.2 else ofF r k
theorem of_at {k : Int} : ∀ {l : List (Int × Int)} {i : Nat}, i < l.length → (l.getD i (0, 0)).1 = k → (∀ j, j < i → (l.getD j (0, 0)).1 ≠ k) → ofF l k = (l.getD i (0, 0)).2
  | [], _, h, _, _ => by simp at h
  | p :: l, 0, _, h, _ => by simp [ofF] at h ⊢; simp [h]
  | p :: l, i + 1, h, h1, h2 => by
    have hy : p.1 ≠ k := by simpa using h2 0 (by omega)
    simp only [ofF, if_neg hy]
    rw [of_at (i := i) (by simpa using h) (by simpa using h1) (fun j hj => by simpa using h2 (j + 1) (by omega))]
    rfl
theorem of_no {k : Int} : ∀ {l : List (Int × Int)}, (∀ j, j < l.length → (l.getD j (0, 0)).1 ≠ k) → ofF l k = -1
  | [], _ => rfl
  | p :: l, h => by
    have hy : p.1 ≠ k := by simpa using h 0 (by simp)
    simp only [ofF, if_neg hy]
    exact of_no fun j hj => by simpa using h (j + 1) (by simpa using hj)
theorem fc_rof (l : List (Int × Int)) (k : Int) : FC Try.prog 28 [] [.sl 2 (l.map eP), .int .i64 k] (.ret (.int .i64 (ofF l k))) := by
  refine fc_M (fn := Try.f28) (C := (tab [] [])) (rs := [4]) mixed (by kernel_rfl) (by kernel_rfl) rfl rfl (by kernel_rfl) (by intro ys h; cases h) ?_
  simp +contextual (maxSteps := 5000000) only [go_sem, ↓reduceIte]
  refine M_loopI (fun i : Nat => ⟨[(0, .sl 2 (l.map eP)), (1, .int .i64 k), (5, .int .i64 i)], []⟩) (fun i => l.length - i) (fun i => i ≤ l.length ∧ ∀ j, j < i → (l.getD j (0, 0)).1 ≠ k) 0 ?_ ?_
  · simp +contextual (maxSteps := 5000000) only [go_sem, ↓reduceIte]
    simp
  · intro i hi
    simp +contextual (maxSteps := 5000000) only [go_sem, ↓reduceIte, eP_at]
    intro hlen
    split
    · rename_i hlt
      split
      · rename_i he
        rw [of_at hlt he (by rw [he] at *; exact hi.2)]
      · rename_i hne
        refine ⟨inR64 (by omega) (by omega), fun _ => ⟨i + 1, by simp, by omega, by omega, fun j hj => ?_⟩⟩
        rcases Nat.lt_succ_iff_lt_or_eq.1 hj with h | rfl
        · exact hi.2 j h
        · exact hne
    · rw [of_no (fun j hj => hi.2 j (by omega))]
end Go.Proofs.Ytojhjhnmfjdbeaa

set_option linter.unusedSimpArgs false
namespace Go.Proofs.Ytojhjhnmfjdbeaa
open Go.Tn
set_option maxHeartbeats 4000000
set_option maxRecDepth 100000
def c_second (caps args : List D) : Prop × Out := match caps, args with | [], [.agg [.int .i64 _, .int .i64 b]] => (True, .ret (.int .i64 b)) | _, _ => (False, .ret .any)
theorem st_second : StC Try.prog 56 c_second := by
  intro caps args; unfold c_second; split
  · exact fun _ => fc_second _ _
  · exact fun h => h.elim
def cntM (ps : List (Int × Int)) : List (Int × Int) := ps.foldl (fun m p => mup m p.2 (mlk m p.2 + 1)) []
theorem cntM_take {ps : List (Int × Int)} {i : Nat} (h : i < ps.length) : cntM (ps.take (i + 1)) = mup (cntM (ps.take i)) (ps.getD i (0, 0)).2 (mlk (cntM (ps.take i)) (ps.getD i (0, 0)).2 + 1) := by
  rw [List.take_add_one, List.getElem?_eq_getElem h, cntM, cntM, List.foldl_append, List.getD_eq_getElem?_getD, List.getElem?_eq_getElem h]; rfl
theorem cnt_nn (k : Int) (ps : List (Int × Int)) : ∀ i, i ≤ ps.length → 0 ≤ mlk (cntM (ps.take i)) k ∧ mlk (cntM (ps.take i)) k ≤ i ∧ (mlk (cntM (ps.take i)) k = 0 ↔ ∀ p ∈ ps.take i, p.2 ≠ k)
  | 0, _ => by simp [cntM, mlk]
  | i + 1, h => by
    obtain ⟨h1, h2, h3⟩ := cnt_nn k ps i (by omega)
    rw [cntM_take (by omega), mlk_mup, List.take_add_one, List.getElem?_eq_getElem (by omega), List.getD_eq_getElem?_getD, List.getElem?_eq_getElem (by omega)]
    simp only [Option.getD_some, Option.toList_some, List.mem_append, List.mem_singleton]
    split
    · rename_i e
      rw [← e]
      refine ⟨by omega, by omega, ⟨fun h => by omega, fun h => absurd e.symm (h _ (.inr rfl))⟩⟩
    · rename_i e
      refine ⟨h1, by omega, h3.trans ⟨fun h p hp => hp.elim (h p) (fun e' => by rw [e']; exact fun h => e h.symm), fun h p hp => h p (.inl hp)⟩⟩
def rsB (ps : List (Int × Int)) (k : Nat) : List Int := ((List.range k).filter fun i : Nat => mlk (cntM ps) (i : Int) = 0).map fun i : Nat => (i : Int)
theorem rsB_succ (ps : List (Int × Int)) (k : Nat) : rsB ps (k + 1) = rsB ps k ++ if mlk (cntM ps) k = 0 then [(k : Int)] else [] := by
  unfold rsB
  rw [List.range_succ, List.filter_append, List.map_append]
  congr 1
  by_cases h : mlk (cntM ps) k = 0 <;> simp [h]
theorem rsB_len (ps : List (Int × Int)) (k : Nat) : (rsB ps k).length ≤ k := by
  unfold rsB; rw [List.length_map]; exact Nat.le_trans (List.length_filter_le _ _) (by simp)
theorem fc_rest (ps : List (Int × Int)) (n : Int) (hn : n ≤ 1000000000) (hp : ps.length < 1000000000) :
    FC Try.prog 55 [] [.sl 2 (ps.map eP), .int .i64 n, .fn 56 [] []] (.own 3 1 ((rsB ps n.toNat).map eI)) := by
  refine fc_M (fn := Try.f55) (C := (tab [(56, c_second)] [])) (rs := [6]) mixed (by kernel_rfl) (by kernel_rfl) rfl rfl (by kernel_rfl) (by intro ys h; cases h) ?_
  simp +contextual (maxSteps := 5000000) only [go_sem, ↓reduceIte, c_second, st_second]
  refine fun _ => M_loopI (fun i : Nat => ⟨[(1, .int .i64 n), (2, .fn 56 [] []), (7, .lmap 12), (13, .sl 2 (ps.map eP)), (14, .int .i64 ps.length), (15, .int .i64 i)], [(12, .mp ((cntM (ps.take i)).map kI) ((cntM (ps.take i)).map vI) false)]⟩) (fun i => ps.length - i) (fun i => i ≤ ps.length) 0 ?_ ?_
  · simp +contextual (maxSteps := 5000000) only [go_sem, ↓reduceIte, cntM, List.foldl_nil]
    rfl
  · intro i hi
    simp +contextual (maxSteps := 5000000) only [go_sem, ↓reduceIte, eP_at, c_second, st_second]
    split
    · rename_i hlt
      obtain ⟨q1, q2, _⟩ := cnt_nn (ps.getD i (0, 0)).2 ps i hi
      refine ⟨inR64 (by omega) (by omega), fun _ => ⟨inR64 (by omega) (by omega), fun _ => ⟨i + 1, ⟨by simp, ?_⟩, by omega, by omega⟩⟩⟩
      rw [cntM_take hlt]; exact ⟨rfl, rfl⟩
    · have : ps.take i = ps := List.take_of_length_le (by omega)
      rw [this]
      refine M_loopI (fun s : Nat => ⟨[(7, .lmap 12), (10, .vec 38 (rsB ps s).length), (27, .int .i64 n.toNat), (28, .int .i64 s)], [(12, .mp ((cntM ps).map kI) ((cntM ps).map vI) false), (38, .vec 3 1 ((rsB ps s).map eI) 0)]⟩) (fun i => n.toNat - i) (fun i => i ≤ n.toNat) 0 ?_ ?_
      · simp +contextual (maxSteps := 5000000) only [go_sem, ↓reduceIte, rsB, List.range_zero, List.filter_nil]
        exact ⟨by omega, rfl⟩
      · intro i hi
        simp +contextual (maxSteps := 5000000) only [go_sem, ↓reduceIte, eI_at, eI_set, List.length_set, tn_add, tn_add1, tn_sub, tn_sub1, sh1, sh1b, half_cast]
        have hl := rsB_len ps i
        have hs := rsB_succ ps i
        split
        · rename_i hlt
          split
          · rename_i h0
            rw [if_pos h0] at hs
            refine ⟨by omega, fun _ => ⟨inR64 (by omega) (by omega), fun _ => ⟨i + 1, ⟨⟨by rw [hs]; simp, by simp⟩, by rw [hs]; simp [eI]⟩, by omega, by omega⟩⟩⟩
          · rename_i h0
            rw [if_neg h0, List.append_nil] at hs
            refine ⟨inR64 (by omega) (by omega), fun _ => ⟨i + 1, ⟨⟨by rw [hs], by simp⟩, by rw [hs]⟩, by omega, by omega⟩⟩
        · rename_i hge
          rw [show i = n.toNat by omega]
def c_rest (caps args : List D) : Prop × Out := match caps, args with | [], [.sl 2 rows, .int .i64 n, .fn f [] []] => ((f = 56 ∧ rows = (rows.map dP).map eP) ∧ n ≤ 1000000000 ∧ rows.length < 1000000000, .own 3 1 ((rsB (rows.map dP) n.toNat).map eI)) | _, _ => (False, .ret .any)
theorem st_rest : StC Try.prog 55 c_rest := by
  intro caps args; unfold c_rest; split
  · rename_i rows n f
    intro h
    obtain ⟨⟨rfl, h1⟩, h2, h3⟩ := h
    have := fc_rest (rows.map dP) n h2 (by simpa using h3)
    rw [← h1] at this
    exact this
  · exact fun h => h.elim
theorem fc_RestB (ps : List (Int × Int)) (n : Int) (hn : n ≤ 1000000000) (hp : ps.length < 1000000000) :
    FC Try.prog 47 [] [.sl 2 (ps.map eP), .int .i64 n] (.own 3 1 ((rsB ps n.toNat).map eI)) := by
  refine fc_M (fn := Try.f47) (C := (tab [(55, c_rest)] [])) (rs := [4]) mixed (by kernel_rfl) (by kernel_rfl) rfl rfl (by kernel_rfl) (by intro ys h; cases h) ?_
  simp +contextual (maxSteps := 5000000) only [go_sem, ↓reduceIte, c_rest, st_rest, dP_eP]
  exact ⟨hn, hp⟩
def c_RestB (caps args : List D) : Prop × Out := match caps, args with | [], [.sl 2 rows, .int .i64 n] => (rows = (rows.map dP).map eP ∧ n ≤ 1000000000 ∧ rows.length < 1000000000, .own 3 1 ((rsB (rows.map dP) n.toNat).map eI)) | _, _ => (False, .ret .any)
theorem st_RestB : StC Try.prog 47 c_RestB := by
  intro caps args; unfold c_RestB; split
  · rename_i rows n
    intro h
    obtain ⟨h1, h2, h3⟩ := h
    have := fc_RestB (rows.map dP) n h2 (by simpa using h3)
    rw [← h1] at this
    exact this
  · exact fun h => h.elim
/-- a map as a list -/
def dM (ks ds : List D) : List (Int × Int) := (ks.zip ds).map fun x => (iOf x.1, iOf x.2)
theorem dM_eM (m : List (Int × Int)) : dM (m.map kI) (m.map vI) = m := by
  induction m with
  | nil => rfl
  | cons x r ih =>
    have : dM (r.map kI) (r.map vI) = r := ih
    simp only [dM, List.map_cons, List.zip_cons_cons] at this ⊢
    rw [this]; rfl
def c_by1 (caps args : List D) : Prop × Out := match caps, args with | [.box [.mp ks ds]], [.int .i64 k] => ((ks = (dM ks ds).map kI ∧ ds = (dM ks ds).map vI) ∧ InR .i64 (mlk (dM ks ds) k - 1), .ret (.int .i64 (mlk (dM ks ds) k - 1))) | _, _ => (False, .ret .any)
theorem st_by1 : StC Try.prog 54 c_by1 := by
  intro caps args; unfold c_by1; split
  · rename_i ks ds k
    intro h
    obtain ⟨⟨h1, h2⟩, h3⟩ := h
    have := fc_by1 (dM ks ds) k h3
    rw [← h1, ← h2] at this
    exact this
  · exact fun h => h.elim
def c_by (caps args : List D) : Prop × Out := match caps, args with | [], [.sl 2 rows] => (rows = (rows.map dP).map eP ∧ ∀ p ∈ rows.map dP, -1000000000 ≤ p.2 ∧ p.2 ≤ 1000000000, .ret (.fn 54 [] [.box [.mp ((byM (rows.map dP)).map kI) ((byM (rows.map dP)).map vI)]])) | _, _ => (False, .ret .any)
theorem st_by : StC Try.prog 46 c_by := by
  intro caps args; unfold c_by; split
  · rename_i rows
    intro h
    obtain ⟨h1, h2⟩ := h
    have := fc_by (rows.map dP) h2
    rw [← h1] at this
    exact this
  · exact fun h => h.elim
def cm_idx1 (i n : Nat) (x : Int) : Option LObj → MS
  | some (.vec e 1 rows 0) => .yes ((e = 3 ∧ rows = (rows.map dI).map eI) ∧ rows.length = n ∧ n < 1000000000) [i] [(i, .vec e 1 rows 0)] (.ret (.int .i64 (idxI x (rows.map dI) 0)))
  | _ => .bad
def cm_idx (ds : List D) (H : Hp) : MS := match ds with | [.vec i n, .int .i64 x] => cm_idx1 i n x (H i) | _ => .bad
theorem stm_idx : StMC Try.prog 48 [0] cm_idx := by
  intro ds H pre mu o1 out h hp
  unfold cm_idx at h
  split at h
  · rename_i i n x
    unfold cm_idx1 at h
    split at h
    · rename_i e rows hi
      cases h
      obtain ⟨⟨rfl, hr⟩, rfl, h3⟩ := hp
      rw [objs_one hi]
      have := (fcm_Index (rows.map dI) rows.length x (by simp) h3).one i trivial (by simp [plainO])
      rw [← hr] at this
      simp only [renF, ren1, renLO, renO, renM, ren, renL, sw_l] at this
      exact this
    · cases h
  · cases h
end Go.Proofs.Ytojhjhnmfjdbeaa

set_option linter.unusedSimpArgs false
namespace Go.Proofs.Ytojhjhnmfjdbeaa
open Go.Tn
set_option maxHeartbeats 4000000
set_option maxRecDepth 100000
def hasB (ps : List (Int × Int)) (k : Int) : Bool := ps.any fun p => p.2 == k
def rrB (ps : List (Int × Int)) (k : Nat) : List Int := ((List.range k).filter fun i : Nat => !hasB ps (i : Int)).map fun i : Nat => (i : Int)
theorem rrB_succ (ps : List (Int × Int)) (k : Nat) : rrB ps (k + 1) = rrB ps k ++ if hasB ps k = false then [(k : Int)] else [] := by
  unfold rrB
  rw [List.range_succ, List.filter_append, List.map_append]
  congr 1
  by_cases h : hasB ps k = false <;> simp [h]
theorem rrB_len (ps : List (Int × Int)) (k : Nat) : (rrB ps k).length ≤ k := by
  unfold rrB; rw [List.length_map]; exact Nat.le_trans (List.length_filter_le _ _) (by simp)
theorem fc_rRestB (ps : List (Int × Int)) (n : Int) (hn : n ≤ 1000000000) :
    FC Try.prog 29 [] [.sl 2 (ps.map eP), .int .i64 n] (.own 3 1 ((rrB ps n.toNat).map eI)) := by
  refine fc_M (fn := Try.f29) (C := (tab [] [])) (rs := [4]) mixed (by kernel_rfl) (by kernel_rfl) rfl rfl (by kernel_rfl) (by intro ys h; cases h) ?_
  simp +contextual (maxSteps := 5000000) only [go_sem, ↓reduceIte]
  refine M_loopI (fun i : Nat => ⟨[(0, .sl 2 (ps.map eP)), (1, .int .i64 n), (5, .vec 35 (rrB ps i).length), (6, .int .i64 i)], [(35, .vec 3 1 ((rrB ps i).map eI) 0)]⟩) (fun i => n.toNat - i) (fun i => i ≤ n.toNat) 0 ?_ ?_
  · simp +contextual (maxSteps := 5000000) only [go_sem, ↓reduceIte, rrB, List.range_zero, List.filter_nil]
    rfl
  · intro i hi
    simp +contextual (maxSteps := 5000000) only [go_sem, ↓reduceIte, eI_at, eI_set, List.length_set, tn_add, tn_add1, tn_sub, tn_sub1, sh1, sh1b, half_cast]
    have hl := rrB_len ps i
    split
    · rename_i hlt
      refine M_loopI (fun j : Nat => ⟨[(0, .sl 2 (ps.map eP)), (1, .int .i64 n), (5, .vec 35 (rrB ps i).length), (6, .int .i64 i), (7, .bool (hasB (ps.take j) i)), (8, .int .i64 j)], [(35, .vec 3 1 ((rrB ps i).map eI) 0)]⟩) (fun j => ps.length - j) (fun j => j ≤ ps.length) 0 ?_ ?_
      · simp +contextual (maxSteps := 5000000) only [go_sem, ↓reduceIte, hasB, List.any_nil]
        rfl
      · intro j hj
        simp +contextual (maxSteps := 5000000) only [go_sem, ↓reduceIte, eI_at, eI_set, List.length_set, tn_add, tn_add1, tn_sub, tn_sub1, sh1, sh1b, half_cast, eP_at]
        have hs := rrB_succ ps i
        intro _
        split
        · rename_i hj2
          have ht : hasB (ps.take (j + 1)) i = (hasB (ps.take j) i || decide ((ps.getD j (0, 0)).2 = i)) := by
            rw [List.take_add_one, List.getElem?_eq_getElem hj2, List.getD_eq_getElem?_getD, List.getElem?_eq_getElem hj2]
            simp only [hasB, Option.getD_some, Option.toList_some, List.any_append, List.any_cons, List.any_nil, Bool.or_false]; rfl
          split
          · rename_i hf
            exact ⟨inR64 (by omega) (by omega), fun _ => ⟨j + 1, ⟨by rw [ht, hf, Bool.false_or], by simp⟩, by omega, by omega⟩⟩
          · rename_i hf
            have hf' : hasB (ps.take j) i = true := by simpa using hf
            exact ⟨inR64 (by omega) (by omega), fun _ => ⟨j + 1, ⟨by rw [ht, hf', Bool.true_or], by simp⟩, by omega, by omega⟩⟩
        · rw [List.take_of_length_le (by omega)]
          split
          · rename_i h0
            rw [if_pos h0] at hs
            refine ⟨by omega, fun _ => ⟨inR64 (by omega) (by omega), fun _ => ⟨i + 1, ⟨⟨by rw [hs]; simp, by simp⟩, by rw [hs]; simp [eI]⟩, by omega, by omega⟩⟩⟩
          · rename_i h0
            rw [if_neg h0, List.append_nil] at hs
            refine ⟨inR64 (by omega) (by omega), fun _ => ⟨i + 1, ⟨⟨by rw [hs], by simp⟩, by rw [hs]⟩, by omega, by omega⟩⟩
    · rw [show i = n.toNat by omega]
end Go.Proofs.Ytojhjhnmfjdbeaa

set_option linter.unusedSimpArgs false
namespace Go.Proofs.Ytojhjhnmfjdbeaa
open Go.Tn
set_option maxHeartbeats 4000000
set_option maxRecDepth 100000
theorem fc_rSame (l k : List (Int × Int × Int)) : FC Try.prog 13 [] [.sl 3 (l.map eT), .sl 3 (k.map eT)] (.ret (.bool (decide (l = k)))) := by
  refine fc_M (fn := Try.f13) (C := (tab [] [])) (rs := [4]) mixed (by kernel_rfl) (by kernel_rfl) rfl rfl (by kernel_rfl) (by intro ys h; cases h) ?_
  simp +contextual (maxSteps := 5000000) only [go_sem, ↓reduceIte]
  intro h1 h2
  split
  · rename_i h
    exact (decide_eq_false (fun e => h (by rw [e]))).symm
  · rename_i h
    have h := Classical.not_not.1 h
    refine M_loopI (fun i : Nat => ⟨[(0, .sl 3 (l.map eT)), (1, .sl 3 (k.map eT)), (5, .int .i64 i)], []⟩) (fun i => l.length - i) (fun i => i ≤ l.length ∧ ∀ j, j < i → l.getD j (0, 0, 0) = k.getD j (0, 0, 0)) 0 ?_ ?_
    · simp +contextual (maxSteps := 5000000) only [go_sem, ↓reduceIte]
      simp
    · intro i hi
      by_cases hlt : i < l.length
      · simp +contextual (maxSteps := 5000000) only [go_sem, ↓reduceIte, hlt, eT_at, show i < k.length by omega]
        intro _
        split
        · rename_i hne
          refine (decide_eq_false (fun e => ?_)).symm
          rw [e] at hne
          exact hne rfl rfl rfl
        · rename_i he
          have he : l.getD i (0, 0, 0) = k.getD i (0, 0, 0) := by
            refine Classical.byContradiction fun hc => he fun e1 e2 e3 => hc ?_
            exact Prod.ext e1 (Prod.ext e2 e3)
          refine ⟨inR64 (by omega) (by omega), fun _ => ⟨i + 1, by simp, by omega, by omega, fun j hj => ?_⟩⟩
          rcases Nat.lt_succ_iff_lt_or_eq.1 hj with h' | rfl
          · exact hi.2 j h'
          · exact he
      · simp +contextual (maxSteps := 5000000) only [go_sem, ↓reduceIte, hlt]
        intro _
        refine (decide_eq_true ?_).symm
        refine List.ext_getElem h fun j g1 g2 => ?_
        have := hi.2 j (by omega)
        rw [List.getD_eq_getElem?_getD, List.getD_eq_getElem?_getD, List.getElem?_eq_getElem g1, List.getElem?_eq_getElem g2] at this
        exact this
end Go.Proofs.Ytojhjhnmfjdbeaa

set_option linter.unusedSimpArgs false
namespace Go.Proofs.Ytojhjhnmfjdbeaa
open Go.Tn
set_option maxHeartbeats 4000000
set_option maxRecDepth 100000
theorem fc_rInts (l k : List Int) : FC Try.prog 15 [] [.sl 1 (l.map eI), .sl 1 (k.map eI)] (.ret (.bool (decide (l = k)))) := by
  refine fc_M (fn := Try.f15) (C := (tab [] [])) (rs := [4]) mixed (by kernel_rfl) (by kernel_rfl) rfl rfl (by kernel_rfl) (by intro ys h; cases h) ?_
  simp +contextual (maxSteps := 5000000) only [go_sem, ↓reduceIte]
  intro h1 h2
  split
  · rename_i h
    exact (decide_eq_false (fun e => h (by rw [e]))).symm
  · rename_i h
    have h := Classical.not_not.1 h
    refine M_loopI (fun i : Nat => ⟨[(0, .sl 1 (l.map eI)), (1, .sl 1 (k.map eI)), (5, .int .i64 i)], []⟩) (fun i => l.length - i) (fun i => i ≤ l.length ∧ ∀ j, j < i → l.getD j 0 = k.getD j 0) 0 ?_ ?_
    · simp +contextual (maxSteps := 5000000) only [go_sem, ↓reduceIte]
      simp
    · intro i hi
      by_cases hlt : i < l.length
      · simp +contextual (maxSteps := 5000000) only [go_sem, ↓reduceIte, hlt, eI_at, show i < k.length by omega]
        intro _
        split
        · rename_i hne
          refine (decide_eq_false (fun e => ?_)).symm
          rw [e] at hne
          exact hne rfl
        · rename_i he
          have he := Classical.not_not.1 he
          refine ⟨inR64 (by omega) (by omega), fun _ => ⟨i + 1, by simp, by omega, by omega, fun j hj => ?_⟩⟩
          rcases Nat.lt_succ_iff_lt_or_eq.1 hj with h' | rfl
          · exact hi.2 j h'
          · exact he
      · simp +contextual (maxSteps := 5000000) only [go_sem, ↓reduceIte, hlt]
        intro _
        refine (decide_eq_true ?_).symm
        refine List.ext_getElem h fun j g1 g2 => ?_
        have := hi.2 j (by omega)
        rw [List.getD_eq_getElem?_getD, List.getD_eq_getElem?_getD, List.getElem?_eq_getElem g1, List.getElem?_eq_getElem g2] at this
        exact this
end Go.Proofs.Ytojhjhnmfjdbeaa

set_option linter.unusedSimpArgs false
namespace Go.Proofs.Ytojhjhnmfjdbeaa
open Go.Tn
set_option maxHeartbeats 4000000
set_option maxRecDepth 100000
theorem fc_rSameP (l k : List (Int × Int)) : FC Try.prog 19 [] [.sl 2 (l.map eP), .sl 2 (k.map eP)] (.ret (.bool (decide (l = k)))) := by
  refine fc_M (fn := Try.f19) (C := (tab [] [])) (rs := [4]) mixed (by kernel_rfl) (by kernel_rfl) rfl rfl (by kernel_rfl) (by intro ys h; cases h) ?_
  simp +contextual (maxSteps := 5000000) only [go_sem, ↓reduceIte]
  intro h1 h2
  split
  · rename_i h
    exact (decide_eq_false (fun e => h (by rw [e]))).symm
  · rename_i h
    have h := Classical.not_not.1 h
    refine M_loopI (fun i : Nat => ⟨[(0, .sl 2 (l.map eP)), (1, .sl 2 (k.map eP)), (5, .int .i64 i)], []⟩) (fun i => l.length - i) (fun i => i ≤ l.length ∧ ∀ j, j < i → l.getD j (0, 0) = k.getD j (0, 0)) 0 ?_ ?_
    · simp +contextual (maxSteps := 5000000) only [go_sem, ↓reduceIte]
      simp
    · intro i hi
      by_cases hlt : i < l.length
      · simp +contextual (maxSteps := 5000000) only [go_sem, ↓reduceIte, hlt, eP_at, show i < k.length by omega]
        intro _
        split
        · rename_i hne
          refine (decide_eq_false (fun e => ?_)).symm
          rw [e] at hne
          exact hne rfl rfl
        · rename_i he
          have he : l.getD i (0, 0) = k.getD i (0, 0) := by
            refine Classical.byContradiction fun hc => he fun e1 e2 => hc ?_
            exact Prod.ext e1 e2
          refine ⟨inR64 (by omega) (by omega), fun _ => ⟨i + 1, by simp, by omega, by omega, fun j hj => ?_⟩⟩
          rcases Nat.lt_succ_iff_lt_or_eq.1 hj with h' | rfl
          · exact hi.2 j h'
          · exact he
      · simp +contextual (maxSteps := 5000000) only [go_sem, ↓reduceIte, hlt]
        intro _
        refine (decide_eq_true ?_).symm
        refine List.ext_getElem h fun j g1 g2 => ?_
        have := hi.2 j (by omega)
        rw [List.getD_eq_getElem?_getD, List.getD_eq_getElem?_getD, List.getElem?_eq_getElem g1, List.getElem?_eq_getElem g2] at this
        exact this
end Go.Proofs.Ytojhjhnmfjdbeaa

set_option linter.unusedSimpArgs false
namespace Go.Proofs.Ytojhjhnmfjdbeaa
open Go.Tn
set_option maxHeartbeats 4000000
set_option maxRecDepth 100000
theorem fc_pairin (a b na nb : Int) : FC Try.prog 43 [] [.agg [.int .i64 a, .int .i64 b], .int .i64 na, .int .i64 nb] (.ret (.bool (decide (0 ≤ a ∧ a < na ∧ 0 ≤ b ∧ b < nb)))) := by
  refine fc_M (fn := Try.f43) (C := (tab [] [])) (rs := [6]) mixed (by kernel_rfl) (by kernel_rfl) rfl rfl (by kernel_rfl) (by intro ys h; cases h) ?_
  simp +contextual (maxSteps := 5000000) only [go_sem, ↓reduceIte]

theorem fc_In (l : List Int) (k : Int) : FC Try.prog 23 [] [.sl 1 (l.map eI), .int .i64 k] (.ret (.bool (decide (k ∈ l)))) := by
  refine fc_M (fn := Try.f23) (C := (tab [] [])) (rs := [4]) mixed (by kernel_rfl) (by kernel_rfl) rfl rfl (by kernel_rfl) (by intro ys h; cases h) ?_
  simp +contextual (maxSteps := 5000000) only [go_sem, ↓reduceIte]
  refine M_loopI (fun i : Nat => ⟨[(0, .sl 1 (l.map eI)), (1, .int .i64 k), (5, .int .i64 i)], []⟩) (fun i => l.length - i) (fun i => i ≤ l.length ∧ ∀ j, j < i → l.getD j 0 ≠ k) 0 ?_ ?_
  · simp +contextual (maxSteps := 5000000) only [go_sem, ↓reduceIte]
    simp
  · intro i hi
    simp +contextual (maxSteps := 5000000) only [go_sem, ↓reduceIte, eI_at]
    intro hlen
    split
    · rename_i hlt
      split
      · rename_i he
        have : k ∈ l := by rw [← he, List.getD_eq_getElem?_getD, List.getElem?_eq_getElem hlt]; exact List.getElem_mem hlt
        simp [this]
      · rename_i hne
        refine ⟨inR64 (by omega) (by omega), fun _ => ⟨i + 1, by simp, by omega, by omega, fun j hj => ?_⟩⟩
        rcases Nat.lt_succ_iff_lt_or_eq.1 hj with h | rfl
        · exact hi.2 j h
        · exact hne
    · rename_i hge
      have : ¬ k ∈ l := fun hm => by
        obtain ⟨j, hj, e⟩ := List.getElem_of_mem hm
        refine hi.2 j (by omega) ?_
        rw [List.getD_eq_getElem?_getD, List.getElem?_eq_getElem hj]; exact e
      simp [this]
theorem fc_isNaN (a : Int) : FC Try.prog 51 [] [.int .i64 a] (.ret (.bool false)) := by
  refine fc_M (fn := Try.f51) (C := (tab [] [])) (rs := [2]) mixed (by kernel_rfl) (by kernel_rfl) rfl rfl (by kernel_rfl) (by intro ys h; cases h) ?_
  simp +contextual (maxSteps := 5000000) only [go_sem, ↓reduceIte]
def c_isNaN (caps args : List D) : Prop × Out := match caps, args with | [], [.int .i64 _] => (True, .ret (.bool false)) | _, _ => (False, .ret .any)
theorem st_isNaN : StC Try.prog 51 c_isNaN := by
  intro caps args; unfold c_isNaN; split
  · exact fun _ => fc_isNaN _
  · exact fun h => h.elim
def cmpI (a b : Int) : Int := if a < b then -1 else if b < a then 1 else 0
theorem fc_cmp (a b : Int) : FC Try.prog 35 [] [.int .i64 a, .int .i64 b] (.ret (.int .i64 (cmpI a b))) := by
  refine fc_M (fn := Try.f35) (C := (tab [(51, c_isNaN)] [])) (rs := [4]) mixed (by kernel_rfl) (by kernel_rfl) rfl rfl (by kernel_rfl) (by intro ys h; cases h) ?_
  simp +contextual (maxSteps := 5000000) only [go_sem, ↓reduceIte, c_isNaN, st_isNaN]
  unfold cmpI
  split <;> simp
end Go.Proofs.Ytojhjhnmfjdbeaa

set_option linter.unusedSimpArgs false
namespace Go.Proofs.Ytojhjhnmfjdbeaa
open Go.Tn
set_option maxHeartbeats 8000000
set_option maxRecDepth 100000
def c_pin (caps args : List D) : Prop × Out := match caps, args with | [], [.agg [.int .i64 a, .int .i64 b], .int .i64 na, .int .i64 nb] => (True, .ret (.bool (decide (0 ≤ a ∧ a < na ∧ 0 ≤ b ∧ b < nb)))) | _, _ => (False, .ret .any)
theorem st_pin : StC Try.prog 43 c_pin := by
  intro caps args; unfold c_pin; split
  · exact fun _ => fc_pairin _ _ _ _
  · exact fun h => h.elim
def c_by2 (caps args : List D) : Prop × Out := match caps, args with | [], [.agg [.int .i64 _, .int .i64 b], .agg [.int .i64 _, .int .i64 d]] => (InR .i64 (b - d), .ret (.int .i64 (b - d))) | _, _ => (False, .ret .any)
theorem st_by2 : StC Try.prog 44 c_by2 := by
  intro caps args; unfold c_by2; split
  · exact fun h => fc_by2 _ _ _ _ h
  · exact fun h => h.elim
/-- how often each number came -/
def ctM (l : List Int) : List (Int × Int) := l.foldl (fun m k => mup m k (mlk m k + 1)) []
theorem ctM_take {α : Type} (g : α → Int) {l : List α} {i : Nat} {d : α} (h : i < l.length) : ctM ((l.take (i + 1)).map g) = mup (ctM ((l.take i).map g)) (g (l.getD i d)) (mlk (ctM ((l.take i).map g)) (g (l.getD i d)) + 1) := by
  rw [List.take_add_one, List.getElem?_eq_getElem h, List.map_append, ctM, ctM, List.foldl_append, List.getD_eq_getElem?_getD, List.getElem?_eq_getElem h]; rfl
theorem ct_bd {α : Type} (g : α → Int) (k : Int) (l : List α) : ∀ i, i ≤ l.length → 0 ≤ mlk (ctM ((l.take i).map g)) k ∧ mlk (ctM ((l.take i).map g)) k ≤ i
  | 0, _ => by simp [ctM, mlk]
  | i + 1, h => by
    have d : α := l[i]'(by omega)
    obtain ⟨h1, h2⟩ := ct_bd g k l i (by omega)
    rw [ctM_take g (d := d) (by omega), mlk_mup]
    split
    · rename_i e; rw [← e]; exact ⟨by omega, by omega⟩
    · exact ⟨h1, by omega⟩
def inB (na nb : Int) (p : Int × Int) : Prop := 0 ≤ p.1 ∧ p.1 < na ∧ 0 ≤ p.2 ∧ p.2 < nb
instance (na nb : Int) (p : Int × Int) : Decidable (inB na nb p) := by unfold inB; infer_instance
def dnF : List (Int × Int) → Bool
  | [] => false
  | [_] => false
  | p :: q :: r => decide (q.2 < p.2) || dnF (q :: r)
theorem dnF_iff : ∀ ps : List (Int × Int), dnF ps = true ↔ ∃ j, j + 1 < ps.length ∧ (ps.getD (j + 1) (0, 0)).2 < (ps.getD j (0, 0)).2
  | [] => by simp [dnF]
  | [p] => by simp [dnF]
  | p :: q :: r => by
    have ih := dnF_iff (q :: r)
    simp only [dnF, Bool.or_eq_true, decide_eq_true_eq, ih]
    constructor
    · rintro (h | ⟨j, h1, h2⟩)
      · exact ⟨0, by simp, by simpa using h⟩
      · exact ⟨j + 1, by simpa using h1, by simpa using h2⟩
    · rintro ⟨j, h1, h2⟩
      cases j with
      | zero => exact .inl (by simpa using h2)
      | succ j => exact .inr ⟨j, by simpa using h1, by simpa using h2⟩
def chk (ps : List (Int × Int)) (na nb : Int) : Int :=
  if na < 0 ∨ nb < 0 then 1 else if ∃ p ∈ ps, ¬ inB na nb p then 11
  else if (ctM (ps.map (·.1))).length < ps.length ∨ (ctM (ps.map (·.2))).length < ps.length then 10
  else if dnF ps = true then 12 else 0
theorem fc_Check (ps : List (Int × Int)) (na nb : Int) (hb : na < 1000000000) (hb2 : nb < 1000000000) (hl : ps.length < 1000000000) :
    FC Try.prog 25 [] [.sl 2 (ps.map eP), .int .i64 na, .int .i64 nb] (.ret (.int .i64 (chk ps na nb))) := by
  refine fc_M (fn := Try.f25) (C := (tab [(43, c_pin), (44, c_by2)] [])) (rs := [6]) mixed (by kernel_rfl) (by kernel_rfl) rfl rfl (by kernel_rfl) (by intro ys h; cases h) ?_
  simp +contextual (maxSteps := 5000000) only [go_sem, ↓reduceIte, c_pin, st_pin]
  unfold chk
  split
  · rename_i h1
    split
    · rename_i h2
      rw [if_pos (.inr h2)]
    · rename_i h2
      rw [if_neg (by omega)]
      refine fun _ => M_loopI (fun i : Nat => ⟨[(0, .sl 2 (ps.map eP)), (1, .int .i64 na), (2, .int .i64 nb), (7, .lmap 19), (8, .lmap 20), (21, .sl 2 (ps.map eP)), (22, .int .i64 ps.length), (23, .int .i64 i)],
        [(19, .mp ((ctM ((ps.take i).map (·.1))).map kI) ((ctM ((ps.take i).map (·.1))).map vI) false), (20, .mp ((ctM ((ps.take i).map (·.2))).map kI) ((ctM ((ps.take i).map (·.2))).map vI) false)]⟩) (fun i => ps.length - i) (fun i => i ≤ ps.length ∧ ∀ p ∈ ps.take i, inB na nb p) 0 ?_ ?_
      · simp +contextual (maxSteps := 5000000) only [go_sem, ↓reduceIte, ctM, List.foldl_nil]
        simp
      · intro i hi
        simp +contextual (maxSteps := 5000000) only [go_sem, ↓reduceIte, eP_at, c_pin, st_pin, c_by2, st_by2]
        obtain ⟨hi, hb⟩ := hi
        split
        · rename_i hlt
          split
          · rename_i hno
            rw [if_pos ⟨_, getD_mem (d := (0, 0)) hlt, hno⟩]
          · rename_i hyes
            have hyes' := Classical.not_not.1 hyes
            obtain ⟨c1, c2⟩ := ct_bd (·.1) (ps.getD i (0, 0)).1 ps i hi
            obtain ⟨c3, c4⟩ := ct_bd (·.2) (ps.getD i (0, 0)).2 ps i hi
            refine ⟨inR64 (by omega) (by omega), fun _ => ⟨inR64 (by omega) (by omega), fun _ => ⟨inR64 (by omega) (by omega), fun _ => ⟨i + 1, ⟨by simp, ?_, ?_⟩, by omega, by omega, fun p hp => ?_⟩⟩⟩⟩
            · rw [ctM_take (·.1) (d := (0, 0)) hlt]; exact ⟨rfl, rfl⟩
            · rw [ctM_take (·.2) (d := (0, 0)) hlt]; exact ⟨rfl, rfl⟩
            · rw [List.take_add_one, List.getElem?_eq_getElem hlt] at hp
              rcases List.mem_append.1 hp with hp | hp
              · exact hb p hp
              · simp only [Option.toList_some, List.mem_singleton] at hp
                subst hp
                rw [List.getD_eq_getElem?_getD, List.getElem?_eq_getElem hlt] at hyes'
                exact hyes'
        · rename_i hge
          have ht : ps.take i = ps := List.take_of_length_le (by omega)
          rw [ht] at hb ⊢
          rw [if_neg (show ¬∃ p, p ∈ ps ∧ ¬inB na nb p from fun ⟨p, hp, hn⟩ => hn (hb p hp))]
          intro _
          split
          · rename_i g1
            split
            · rename_i g2
              rw [if_pos (.inr g2)]
            · rename_i g2
              rw [if_neg (by rintro (h | h) <;> contradiction)]
              refine M_loopI (fun i : Nat => ⟨[(0, .sl 2 (ps.map eP)), (55, .sl 2 (ps.map eP)), (56, .int .i64 ps.length), (57, .int .i64 i)], []⟩) (fun i => ps.length - i) (fun i => i ≤ ps.length ∧ ∀ j, j + 1 < i → ¬ (ps.getD (j + 1) (0, 0)).2 < (ps.getD j (0, 0)).2) 0 ?_ ?_
              · simp +contextual (maxSteps := 5000000) only [go_sem, ↓reduceIte]
                simp
              · intro k hk
                obtain ⟨hk, hn⟩ := hk
                by_cases hlt : k < ps.length
                · have hat := eP_at ps (k - 1) (by omega)
                  have hp1 := hb _ (getD_mem (d := (0, 0)) hlt)
                  have hp2 := hb _ (getD_mem (d := (0, 0)) (show k - 1 < ps.length by omega))
                  unfold inB at hp1 hp2
                  simp +contextual (maxSteps := 5000000) only [go_sem, ↓reduceIte, eI_at, eI_set, List.length_set, tn_add, tn_add1, tn_sub, tn_sub1, sh1, sh1b, half_cast, eP_at, hat, hlt, c_by2, st_by2]
                  split
                  · rename_i hk0
                    refine ⟨inR64 (by omega) (by omega), fun _ => ⟨⟨by omega, by omega⟩, fun _ => ⟨inR64 (by omega) (by omega), ?_⟩⟩⟩
                    split
                    · rename_i hd
                      rw [if_pos ((dnF_iff ps).2 ⟨k - 1, by omega, by rw [show k - 1 + 1 = k by omega]; omega⟩)]
                    · rename_i hd
                      refine ⟨inR64 (by omega) (by omega), fun _ => ⟨k + 1, by simp, by omega, by omega, fun j hj => ?_⟩⟩
                      rcases Nat.lt_succ_iff_lt_or_eq.1 hj with h | h
                      · exact hn j h
                      · rw [h, show j = k - 1 by omega]; omega
                  · rename_i hk0
                    refine ⟨inR64 (by omega) (by omega), fun _ => ⟨k + 1, by simp, by omega, by omega, fun j hj => by omega⟩⟩
                · simp +contextual (maxSteps := 5000000) only [go_sem, ↓reduceIte, eI_at, eI_set, List.length_set, tn_add, tn_add1, tn_sub, tn_sub1, sh1, sh1b, half_cast, hlt]
                  have hd : ¬ dnF ps = true := fun h => by
                    obtain ⟨j, h1, h2⟩ := (dnF_iff ps).1 h
                    exact hn j (by omega) h2
                  rw [if_neg hd]
          · rename_i g1
            rw [if_pos (.inl (Classical.not_not.1 g1))]
  · rename_i h1
    rw [if_pos (by omega)]
end Go.Proofs.Ytojhjhnmfjdbeaa

set_option linter.unusedSimpArgs false
namespace Go.Proofs.Ytojhjhnmfjdbeaa
open Go.Tn
set_option maxHeartbeats 4000000
set_option maxRecDepth 100000
/-- two places with the same number on a side -/
def dupB (ps : List (Int × Int)) : Prop := ∃ i, i < ps.length ∧ ∃ j, j < i ∧ ((ps.getD j (0, 0)).1 = (ps.getD i (0, 0)).1 ∨ (ps.getD j (0, 0)).2 = (ps.getD i (0, 0)).2)
open Classical in
noncomputable def rchk (ps : List (Int × Int)) (na nb : Int) : Int :=
  if na < 0 ∨ nb < 0 then 1 else if ∃ p ∈ ps, ¬ inB na nb p then 11 else if dupB ps then 10 else if dnF ps = true then 12 else 0
theorem fc_rCheck (ps : List (Int × Int)) (na nb : Int) :
    FC Try.prog 27 [] [.sl 2 (ps.map eP), .int .i64 na, .int .i64 nb] (.ret (.int .i64 (rchk ps na nb))) := by
  refine fc_M (fn := Try.f27) (C := (tab [] [])) (rs := [6]) mixed (by kernel_rfl) (by kernel_rfl) rfl rfl (by kernel_rfl) (by intro ys h; cases h) ?_
  simp +contextual (maxSteps := 5000000) only [go_sem, ↓reduceIte]
  unfold rchk
  split
  · rename_i h1
    split
    · rename_i h2
      rw [if_pos (.inr h2)]
    · rename_i h2
      rw [if_neg (by omega)]
      refine M_loopI (fun i : Nat => ⟨[(0, .sl 2 (ps.map eP)), (1, .int .i64 na), (2, .int .i64 nb), (7, .int .i64 i)], []⟩) (fun i => ps.length - i) (fun i => i ≤ ps.length ∧ ∀ p ∈ ps.take i, inB na nb p) 0 ?_ ?_
      · simp +contextual (maxSteps := 5000000) only [go_sem, ↓reduceIte]
        simp
      · intro i hi
        obtain ⟨hi, hb⟩ := hi
        by_cases hlt : i < ps.length
        · have hmem := getD_mem (d := ((0 : Int), (0 : Int))) hlt
          have hbad : ¬ inB na nb (ps.getD i (0, 0)) → ∃ p, p ∈ ps ∧ ¬inB na nb p := fun h => ⟨_, hmem, h⟩
          simp +contextual (maxSteps := 5000000) only [go_sem, ↓reduceIte, hlt, eP_at]
          intro _
          split
          · split
            · split
              · split
                · rw [if_pos (hbad (by unfold inB; omega))]
                · refine ⟨inR64 (by omega) (by omega), fun _ => ⟨i + 1, by simp, by omega, by omega, fun p hp => ?_⟩⟩
                  rw [List.take_add_one, List.getElem?_eq_getElem hlt] at hp
                  rcases List.mem_append.1 hp with hp | hp
                  · exact hb p hp
                  · simp only [Option.toList_some, List.mem_singleton] at hp
                    subst hp
                    rw [List.getD_eq_getElem?_getD, List.getElem?_eq_getElem hlt] at *
                    simp only [Option.getD_some] at *
                    unfold inB; omega
              · rw [if_pos (hbad (by unfold inB; omega))]
            · rw [if_pos (hbad (by unfold inB; omega))]
          · rw [if_pos (hbad (by unfold inB; omega))]
        · have ht : ps.take i = ps := List.take_of_length_le (by omega)
          rw [ht] at hb
          rw [if_neg (show ¬∃ p, p ∈ ps ∧ ¬inB na nb p from fun ⟨p, hp, hn⟩ => hn (hb p hp))]
          simp +contextual (maxSteps := 5000000) only [go_sem, ↓reduceIte, hlt]
          intro hl
          refine M_loopI (fun i : Nat => ⟨[(0, .sl 2 (ps.map eP)), (8, .int .i64 i)], []⟩) (fun i => ps.length - i) (fun i => i ≤ ps.length ∧ ∀ a, a < i → ∀ b, b < a → ¬ ((ps.getD b (0, 0)).1 = (ps.getD a (0, 0)).1 ∨ (ps.getD b (0, 0)).2 = (ps.getD a (0, 0)).2)) 0 ?_ ?_
          · simp +contextual (maxSteps := 5000000) only [go_sem, ↓reduceIte]
            rfl
          · intro i hi
            obtain ⟨hi, hn⟩ := hi
            by_cases hlt2 : i < ps.length
            · simp +contextual (maxSteps := 5000000) only [go_sem, ↓reduceIte, hlt2]
              intro _
              refine M_loopI (fun k : Nat => ⟨[(0, .sl 2 (ps.map eP)), (8, .int .i64 i), (9, .int .i64 k)], []⟩) (fun k => i - k) (fun k => k ≤ i ∧ ∀ b, b < k → ¬ ((ps.getD b (0, 0)).1 = (ps.getD i (0, 0)).1 ∨ (ps.getD b (0, 0)).2 = (ps.getD i (0, 0)).2)) 0 ?_ ?_
              · simp +contextual (maxSteps := 5000000) only [go_sem, ↓reduceIte]
                rfl
              · intro k hk
                obtain ⟨hk, hm⟩ := hk
                by_cases hki : k < i
                · have hd : ((ps.getD k (0, 0)).1 = (ps.getD i (0, 0)).1 ∨ (ps.getD k (0, 0)).2 = (ps.getD i (0, 0)).2) → dupB ps := fun h => ⟨i, hlt2, k, hki, h⟩
                  simp +contextual (maxSteps := 5000000) only [go_sem, ↓reduceIte, hki, eP_at, hlt2, show k < ps.length by omega]
                  split
                  · split
                    · rw [if_pos (hd (by omega))]
                    · refine ⟨inR64 (by omega) (by omega), fun _ => ⟨k + 1, by simp, by omega, by omega, fun b hb => ?_⟩⟩
                      rcases lt_cases hb with h | rfl
                      · exact hm b h
                      · omega
                  · rw [if_pos (hd (by omega))]
                · have hki : k = i := by omega
                  subst hki
                  simp +contextual (maxSteps := 5000000) only [go_sem, ↓reduceIte, Nat.lt_irrefl]
                  refine ⟨inR64 (by omega) (by omega), fun _ => ⟨k + 1, by simp, by omega, by omega, fun a ha b hb => ?_⟩⟩
                  rcases lt_cases ha with h | rfl
                  · exact hn a h b hb
                  · exact hm b hb
            · simp +contextual (maxSteps := 5000000) only [go_sem, ↓reduceIte, hlt2]
              intro _
              refine M_loopI (fun i : Nat => ⟨[(0, .sl 2 (ps.map eP)), (10, .int .i64 i)], []⟩) (fun i => ps.length - i) (fun i => 0 < i ∧ ∀ j, j + 1 < i → ¬ (ps.getD (j + 1) (0, 0)).2 < (ps.getD j (0, 0)).2) 1 ?_ ?_
              · simp +contextual (maxSteps := 5000000) only [go_sem, ↓reduceIte]
                exact ⟨rfl, fun j hj => by omega⟩
              · intro k hk
                obtain ⟨hk, hm⟩ := hk
                have hnd : ¬ dupB ps := fun ⟨a, ha, b, hb, h⟩ => hn a (by omega) b hb h
                rw [if_neg hnd]
                by_cases hkl : k < ps.length
                · have hat := eP_at ps (k - 1) (by omega)
                  have hd : (ps.getD k (0, 0)).2 < (ps.getD (k - 1) (0, 0)).2 → dnF ps = true := fun h => (dnF_iff ps).2 ⟨k - 1, by omega, by rw [show k - 1 + 1 = k by omega]; exact h⟩
                  simp +contextual (maxSteps := 5000000) only [go_sem, ↓reduceIte, eI_at, eI_set, List.length_set, tn_add, tn_add1, tn_sub, tn_sub1, sh1, sh1b, half_cast, eP_at, hkl, hat]
                  simp only [aa, inR_iff]
                  intro _
                  refine ⟨by omega, by omega, ?_⟩
                  split
                  · rename_i h; rw [if_pos (hd h)]
                  · rename_i h
                    refine ⟨by omega, k + 1, by simp, by omega, by omega, fun j hj => ?_⟩
                    by_cases e : j + 1 = k
                    · subst e; exact h
                    · exact hm j (by omega)
                · have hd : ¬ dnF ps = true := fun h => by
                    obtain ⟨j, hj, h⟩ := (dnF_iff ps).1 h
                    exact hm j (by omega) h
                  simp +contextual (maxSteps := 5000000) only [go_sem, ↓reduceIte, hkl, hd]
  · rename_i h1
    rw [if_pos (by omega)]
end Go.Proofs.Ytojhjhnmfjdbeaa

set_option linter.unusedSimpArgs false
namespace Go.Proofs.Ytojhjhnmfjdbeaa
open Go.Tn
set_option maxHeartbeats 4000000
set_option maxRecDepth 100000
def delR {α : Type} (l : List α) (a b : Nat) : List α := l.take a ++ l.drop b
theorem delR_map {α β : Type} (f : α → β) (l : List α) (a b : Nat) : delR (l.map f) a b = (delR l a b).map f := by simp [delR, List.map_take, List.map_drop]
theorem fcm_delete0 (rows : List (List D)) (n a b : Nat) (hl : rows.length = n) (hab : a ≤ b) (hb : b ≤ n) (hn : n < 1000000000) :
    FCM Try.prog 49 [(true, .vsub 1000 n 1 0 n), (false, .int .i64 a), (false, .int .i64 b)] [(1000, .vec 3 1 rows 0)]
      [(1000, .vec 3 1 (if a = b then rows else ovr (ovr rows (rows.drop b) a) (List.replicate (b - a) [.int .i64 0]) (a + (n - b))) 0)] (.ret (.vsub 1000 n 1 0 (a + (n - b)))) := by
  refine fcm_M (fn := Try.f49) (C := (tab [] [])) (rs := [6]) mixed (by kernel_rfl) (by kernel_rfl) rfl rfl (by kernel_rfl) ?_ ?_
  · simp +contextual (maxSteps := 5000000) only [go_sem, ↓reduceIte]
  simp +contextual (maxSteps := 5000000) only [go_sem, ↓reduceIte, eI_at, eI_set, List.length_set, tn_add, tn_add1, tn_sub, tn_sub1, sh1, sh1b, half_cast, Int.toNat_zero, Int.reduceToNat, Nat.sub_zero, Nat.le_refl]
  refine ⟨⟨hl, by omega⟩, fun _ => ⟨⟨by omega, by omega⟩, fun _ => ?_⟩⟩
  have ht : (rows.drop b).take (n - b) = rows.drop b := List.take_of_length_le (by simp; omega)
  rw [ht]
  split
  · rename_i e
    subst e
    rw [show a + (n - a) = n by omega]
  · exact ⟨⟨by omega, by omega⟩, fun _ => ⟨by omega, fun _ => ⟨⟨by rw [ovr_len (by simp; omega)]; exact hl, by omega⟩, fun _ => by rw [show n - (a + (n - b)) = b - a by omega]⟩⟩⟩
theorem fcm_delete (rows : List (List D)) (n a b j : Nat) (hj : j ≠ 1000) (hl : rows.length = n) (hab : a ≤ b) (hb : b ≤ n) (h0 : 0 < n) (hn : n < 1000000000) :
    FCM Try.prog 49 [(true, .vec 1000 n), (false, .int .i64 a), (false, .int .i64 b)] [(1000, .vec 3 1 rows 0)]
      [(j, .vec 3 1 (delR rows a b) 0)] (.ret (.vec j (a + (n - b)))) := by
  have h := (fcm_delete0 rows n a b hl hab hb hn).take n hl ?_ h0 (by omega) j hj
  · have e : (if a = b then rows else ovr (ovr rows (rows.drop b) a) (List.replicate (b - a) [.int .i64 0]) (a + (n - b))).take (a + (n - b)) = delR rows a b := by
      split
      · rename_i e
        subst e
        rw [List.take_of_length_le (by omega), delR, List.take_append_drop]
      · unfold ovr delR
        have h1 : (rows.take a ++ (rows.drop b ++ rows.drop (a + (rows.drop b).length))).take (a + (n - b)) = rows.take a ++ rows.drop b := by
          rw [← List.append_assoc, List.take_left']
          simp; omega
        rw [List.take_left']
        · exact h1
        · rw [h1]; simp; omega
    rw [e] at h
    exact h
  · split
    · exact hl
    · have h1 : (ovr rows (rows.drop b) a).length = n := by rw [ovr_len (by simp; omega)]; exact hl
      rw [ovr_len (by simp; omega)]; exact h1
def alt (i : Nat) : Nat := if i = 43 then 1043 else 43
theorem alt_ne (i : Nat) : alt i ≠ i := by unfold alt; split <;> omega
def cm_del1 (i n : Nat) (a b : Int) : Option LObj → MS
  | some (.vec e 1 rows 0) => .yes ((e = 3 ∧ rows = (rows.map dI).map eI) ∧ (rows.length = n ∧ 0 < n ∧ n < 1000000000) ∧ 0 ≤ a ∧ a ≤ b ∧ b ≤ n) [i] [(alt i, .vec e 1 ((delR (rows.map dI) a.toNat b.toNat).map eI) 0)] (.ret (.vec (alt i) (a.toNat + (n - b.toNat))))
  | _ => .bad
def cm_del (ds : List D) (H : Hp) : MS := match ds with | [.vec i n, .int .i64 a, .int .i64 b] => cm_del1 i n a b (H i) | _ => .bad
theorem stm_del : StMC Try.prog 49 [0] cm_del := by
  intro ds H pre mu o1 out h hp
  unfold cm_del at h
  split at h
  · rename_i i n a b
    unfold cm_del1 at h
    split at h
    · rename_i e rows hi
      cases h
      obtain ⟨⟨rfl, hr⟩, ⟨rfl, h0, h3⟩, ha, hab, hb⟩ := hp
      rw [objs_one hi]
      have hj : sw 1000 i (alt i) ≠ 1000 := by
        have := alt_ne i
        unfold sw
        split <;> first | omega | (split <;> omega)
      have := (fcm_delete rows rows.length a.toNat b.toNat (sw 1000 i (alt i)) hj rfl (by omega) (by omega) h0 h3).one i trivial (by simp [plainO])
      rw [hr, delR_map, ← hr] at this
      rw [Int.toNat_of_nonneg ha, Int.toNat_of_nonneg (by omega)] at this
      simp only [renF, ren1, renLO, renO, renM, ren, renL, sw_l, sw_sw] at this
      exact this
    · cases h
  · cases h
end Go.Proofs.Ytojhjhnmfjdbeaa

set_option linter.unusedSimpArgs false
namespace Go.Proofs.Ytojhjhnmfjdbeaa
open Go.Tn
set_option maxHeartbeats 8000000
set_option maxRecDepth 100000
def byF (ps : List (Int × Int)) (k : Int) : Int := mlk (byM ps) k - 1
def nxR (f : Int → Int) (rest : List Int) (k : Int) : List Int := if 0 ≤ idxI (f k) rest 0 then delR rest (idxI (f k) rest 0).toNat (idxI (f k) rest 0 + 1).toNat else rest
def itR (f : Int → Int) (rest : List Int) (k : Int) : Int × Int × Int := (-1, k, if 0 ≤ idxI (f k) rest 0 then rest.getD (idxI (f k) rest 0).toNat 0 else -1)
def rsA (f : Int → Int) (ks : List Int) (rest : List Int) : Nat → List Int
  | 0 => rest
  | j + 1 => nxR f (rsA f ks rest j) (ks.getD j 0)
def eY (x : Int × Int × Int) : List D := [.agg [.int .i64 x.1, .int .i64 x.2.1, .int .i64 x.2.2]]
def trA (p0 p1 : List (Int × Int)) (n0 : Int) : List (Int × Int × Int) := (List.range n0.toNat).map fun i : Nat => ((i : Int), byF p0 i, byF p1 i)
def trB (f : Int → Int) (ks rest : List Int) : List (Int × Int × Int) := (List.range ks.length).map fun j => itR f (rsA f ks rest j) (ks.getD j 0)
def trC (rest : List Int) : List (Int × Int × Int) := rest.map fun r => (-1, -1, r)
def trL (p0 p1 p2 : List (Int × Int)) (n0 n1 n2 : Int) : List (Int × Int × Int) :=
  trA p0 p1 n0 ++ trB (byF p2) (rsB p0 n1.toNat) (rsB p1 n2.toNat) ++ trC (rsA (byF p2) (rsB p0 n1.toNat) (rsB p1 n2.toNat) (rsB p0 n1.toNat).length)
theorem byM_bd {ps : List (Int × Int)} (hb : ∀ p ∈ ps, -1000000000 ≤ p.2 ∧ p.2 ≤ 1000000000) (k : Int) : ∀ i, i ≤ ps.length → -1000000000 ≤ mlk (byM (ps.take i)) k ∧ mlk (byM (ps.take i)) k ≤ 1000000001
  | 0, _ => by simp [byM, mlk]
  | i + 1, h => by
    rw [byM_take (by omega), mlk_mup]
    have h1 := hb _ (getD_mem (d := (0, 0)) (show i < ps.length by omega))
    have h2 := byM_bd hb k i (by omega)
    split
    · omega
    · exact h2
theorem byM_in {ps : List (Int × Int)} (hb : ∀ p ∈ ps, -1000000000 ≤ p.2 ∧ p.2 ≤ 1000000000) (k : Int) : InR .i64 (mlk (byM ps) k - 1) := by
  have := byM_bd hb k ps.length (Nat.le_refl _)
  rw [List.take_length] at this
  exact inR64 (by omega) (by omega)
theorem yl_step {L : List (Int × Int × Int)} {i : Nat} {x : Int × Int × Int} (h : L[i]? = some x) : (∃ r, L.map eY = (L.take i).map eY ++ eY x :: r) ∧ (L.take i).map eY ++ [eY x] = (L.take (i + 1)).map eY := by
  constructor
  · refine ⟨(L.drop (i + 1)).map eY, ?_⟩
    obtain ⟨hi, rfl⟩ := List.getElem?_eq_some_iff.1 h
    rw [← List.map_cons, ← List.map_append, List.getElem_cons_drop, List.take_append_drop]
  · rw [List.take_add_one, h, List.map_append]; rfl
theorem nxR_len (f : Int → Int) (rest : List Int) (k : Int) : (nxR f rest k).length ≤ rest.length := by
  unfold nxR; split
  · rename_i h
    have := @idx_le (f k) rest 0
    simp [delR]; omega
  · exact Nat.le_refl _
theorem rsA_len (f : Int → Int) (ks rest : List Int) : ∀ j, (rsA f ks rest j).length ≤ rest.length
  | 0 => Nat.le_refl _
  | j + 1 => Nat.le_trans (nxR_len _ _ _) (rsA_len f ks rest j)
section
variable {p0 p1 p2 : List (Int × Int)} {n0 n1 n2 : Int}
theorem tr_at0 {i : Nat} (h : i < n0.toNat) : (trL p0 p1 p2 n0 n1 n2)[i]? = some ((i : Int), byF p0 i, byF p1 i) := by
  unfold trL trA
  rw [List.append_assoc, List.getElem?_append_left (by simpa using h), List.getElem?_map, List.getElem?_range h]; rfl
theorem tr_at1 {j : Nat} (h : j < (rsB p0 n1.toNat).length) : (trL p0 p1 p2 n0 n1 n2)[n0.toNat + j]? = some (itR (byF p2) (rsA (byF p2) (rsB p0 n1.toNat) (rsB p1 n2.toNat) j) ((rsB p0 n1.toNat).getD j 0)) := by
  unfold trL
  have hA : (trA p0 p1 n0).length = n0.toNat := by simp [trA]
  rw [List.append_assoc, List.getElem?_append_right (by omega), hA, Nat.add_sub_cancel_left, List.getElem?_append_left (by simpa [trB] using h), trB, List.getElem?_map, List.getElem?_range h]; rfl
theorem tr_at2 {r : Nat} (h : r < (rsA (byF p2) (rsB p0 n1.toNat) (rsB p1 n2.toNat) (rsB p0 n1.toNat).length).length) : (trL p0 p1 p2 n0 n1 n2)[n0.toNat + (rsB p0 n1.toNat).length + r]? = some (-1, -1, (rsA (byF p2) (rsB p0 n1.toNat) (rsB p1 n2.toNat) (rsB p0 n1.toNat).length).getD r 0) := by
  unfold trL
  have hA : (trA p0 p1 n0).length = n0.toNat := by simp [trA]
  have hB : (trB (byF p2) (rsB p0 n1.toNat) (rsB p1 n2.toNat)).length = (rsB p0 n1.toNat).length := by simp [trB]
  rw [List.getElem?_append_right (by simp; omega), List.length_append, hA, hB, Nat.add_sub_cancel_left, trC, List.getElem?_map, List.getD_eq_getElem?_getD, List.getElem?_eq_getElem h]; rfl
theorem tr_len : (trL p0 p1 p2 n0 n1 n2).length = n0.toNat + (rsB p0 n1.toNat).length + (rsA (byF p2) (rsB p0 n1.toNat) (rsB p1 n2.toNat) (rsB p0 n1.toNat).length).length := by
  simp [trL, trA, trB, trC]; omega
end
theorem nx_pos {f : Int → Int} {r : List Int} {k : Int} (h : 0 ≤ idxI (f k) r 0) : nxR f r k = delR r (idxI (f k) r 0).toNat (idxI (f k) r 0 + 1).toNat ∧
    (nxR f r k).length = (idxI (f k) r 0).toNat + (r.length - (idxI (f k) r 0 + 1).toNat) ∧ (itR f r k).2.2 = r.getD (idxI (f k) r 0).toNat 0 := by
  have hix := @idx_le (f k) r 0
  unfold nxR itR
  rw [if_pos h, if_pos h]
  refine ⟨rfl, ?_, rfl⟩
  simp [delR]; omega
theorem nx_neg {f : Int → Int} {r : List Int} {k : Int} (h : ¬ 0 ≤ idxI (f k) r 0) : nxR f r k = r ∧ (itR f r k).2.2 = -1 := by
  unfold nxR itR
  rw [if_neg h, if_neg h]; exact ⟨rfl, rfl⟩
def idB (b : Bool) : Nat := match b with | true => 43 | false => 1043
theorem idx_e (i n : Nat) (x : Int) (l : List Int) : cm_idx1 i n x (some (.vec 3 1 (l.map eI) 0)) = .yes (l.length = n ∧ n < 1000000000) [i] [(i, .vec 3 1 (l.map eI) 0)] (.ret (.int .i64 (idxI x l 0))) := by
  simp only [cm_idx1, dI_eI, true_and, and_true, List.length_map]
theorem del_e (i n : Nat) (a b : Int) (l : List Int) : cm_del1 i n a b (some (.vec 3 1 (l.map eI) 0)) = .yes ((l.length = n ∧ 0 < n ∧ n < 1000000000) ∧ 0 ≤ a ∧ a ≤ b ∧ b ≤ n) [i] [(alt i, .vec 3 1 ((delR l a.toNat b.toNat).map eI) 0)] (.ret (.vec (alt i) (a.toNat + (n - b.toNat)))) := by
  simp only [cm_del1, dI_eI, true_and, and_true, List.length_map]
theorem alt1 : alt 1043 = 43 := rfl
theorem alt2 : alt 43 = 1043 := rfl
abbrev cM (m : List (Int × Int)) : D := .fn 54 [] [.box [.mp (m.map kI) (m.map vI)]]
abbrev pB (ps : List (Int × Int)) : D := .box [.sl 2 (ps.map eP)]
abbrev nB (n : Int) : D := .box [.int .i64 n]
theorem fc_trios1 (p0 p1 p2 : List (Int × Int)) (n0 n1 n2 : Int) (h0 : n0 < 1000000000) (h1 : n1 < 1000000000) (h2 : n2 < 1000000000)
    (b0 : ∀ p ∈ p0, -1000000000 ≤ p.2 ∧ p.2 ≤ 1000000000) (b1 : ∀ p ∈ p1, -1000000000 ≤ p.2 ∧ p.2 ≤ 1000000000) (b2 : ∀ p ∈ p2, -1000000000 ≤ p.2 ∧ p.2 ≤ 1000000000)
    (l0 : p0.length < 1000000000) (l1 : p1.length < 1000000000) :
    FC Try.prog 45 [pB p0, pB p1, pB p2, nB n0, nB n2, nB n1] [] (.seq ((trL p0 p1 p2 n0 n1 n2).map eY)) := by
  refine fcy_M (fn := Try.f45) (C := (tab [(46, c_by), (54, c_by1), (47, c_RestB)] [(48, [0], cm_idx), (49, [0], cm_del)] [11])) mixed (by kernel_rfl) (by kernel_rfl) rfl rfl (by kernel_rfl) (by kernel_rfl) ?_
  simp +contextual (maxSteps := 5000000) only [go_sem, ↓reduceIte, c_by, st_by, dP_eP]
  have a0 := @tr_at0 p0 p1 p2 n0 n1 n2
  have a1 := @tr_at1 p0 p1 p2 n0 n1 n2
  have a2 := @tr_at2 p0 p1 p2 n0 n1 n2
  have a3 := @tr_len p0 p1 p2 n0 n1 n2
  have i0 := byM_in b0
  have i1 := byM_in b1
  have i2 := byM_in b2
  generalize trL p0 p1 p2 n0 n1 n2 = L at a0 a1 a2 a3 ⊢
  refine ⟨b0, b1, b2, M_loopI (fun i : Nat => ⟨[(0, .yld 999), (1, pB p0), (2, pB p1), (5, nB n2), (6, nB n1), (8, cM (byM p0)), (9, cM (byM p1)), (10, cM (byM p2)), (25, .int .i64 n0), (26, .int .i64 i)], [(999, .yl (L.map eY) ((L.take i).map eY) false)]⟩) (fun i => n0.toNat - i) (fun i => i ≤ n0.toNat) 0 ?_ ?_⟩
  · simp +contextual (maxSteps := 5000000) only [go_sem, ↓reduceIte]
    rfl
  · intro i hi
    simp +contextual (maxSteps := 5000000) only [go_sem, ↓reduceIte, c_by1, st_by1, c_RestB, st_RestB, dP_eP, dM_eM]
    split
    · rename_i hlt
      obtain ⟨q1, q2⟩ := yl_step (a0 (i := i) (by omega))
      exact ⟨i0 _, i1 _, q1, fun b hb => ⟨inR64 (by omega) (by omega), fun _ => ⟨i + 1, ⟨by simp, q2⟩, by omega, by omega⟩⟩⟩
    · rename_i hge
      have hi' : i = n0.toNat := by omega
      subst hi'
      have hk1 := rsB_len p0 n1.toNat
      have hk2 := rsB_len p1 n2.toNat
      refine ⟨⟨by omega, l1⟩, ⟨by omega, l0⟩, ?_⟩
      generalize rsB p0 n1.toNat = ks at a1 a2 a3 hk1 ⊢
      generalize rsB p1 n2.toNat = rest at a1 a2 a3 hk2 ⊢
      have hr := rsA_len (byF p2) ks rest
      refine M_loopI (fun s : Nat × Bool => ⟨[(0, .yld 999), (10, cM (byM p2)), (12, .vec (idB s.2) (rsA (byF p2) ks rest s.1).length), (46, .vec 46 ks.length), (47, .int .i64 ks.length), (48, .int .i64 s.1)], [(999, .yl (L.map eY) ((L.take (n0.toNat + s.1)).map eY) false), (46, .vec 3 1 (ks.map eI) 0), (idB s.2, .vec 3 1 ((rsA (byF p2) ks rest s.1).map eI) 0)]⟩) (fun s => ks.length - s.1) (fun s => s.1 ≤ ks.length) (0, true) ?_ ?_
      · simp +contextual (maxSteps := 5000000) only [go_sem, ↓reduceIte, idB, rsA]
        rfl
      · intro ⟨j, b⟩ hj
        simp only at hj
        have hrj := hr j
        cases b
        · simp +contextual (maxSteps := 5000000) only [go_sem, ↓reduceIte, eI_at, eI_set, List.length_set, tn_add, tn_add1, tn_sub, tn_sub1, sh1, sh1b, half_cast, idB]
          split
          · rename_i hlt
            obtain ⟨q1, q2⟩ := yl_step (a1 hlt)
            refine M_join (fun b' : Bool => ⟨[(0, .yld 999), (10, cM (byM p2)), (12, .vec (idB b') (nxR (byF p2) (rsA (byF p2) ks rest j) (ks.getD j 0)).length), (15, .loc 15 0), (46, .vec 46 ks.length), (47, .int .i64 ks.length), (48, .int .i64 j)],
              [(999, .yl (L.map eY) ((L.take (n0.toNat + j)).map eY) false), (46, .vec 3 1 (ks.map eI) 0), (idB b', .vec 3 1 ((nxR (byF p2) (rsA (byF p2) ks rest j) (ks.getD j 0)).map eI) 0), (15, .blk [.int .i64 (-1), .int .i64 (ks.getD j 0), .int .i64 (itR (byF p2) (rsA (byF p2) ks rest j) (ks.getD j 0)).2.2] false)]⟩) (fun _ => True) ?_ ?_
            · simp +contextual (maxSteps := 5000000) only [go_sem, ↓reduceIte, eI_at, eI_set, List.length_set, tn_add, tn_add1, tn_sub, tn_sub1, sh1, sh1b, half_cast, ↓Bool.exists_bool, idB, c_by1, st_by1, dM_eM, cm_idx, idx_e, stm_idx, cm_del, del_e, stm_del, alt1, alt2]
              refine ⟨i2 _, by omega, ?_⟩
              have e : mlk (byM p2) (ks.getD j 0) - 1 = byF p2 (ks.getD j 0) := rfl
              rw [e]
              have hix := @idx_le (byF p2 (ks.getD j 0)) (rsA (byF p2) ks rest j) 0
              split
              · rename_i hp
                obtain ⟨e1, e2, e3⟩ := nx_pos hp
                refine ⟨by simpa using hix, fun _ => ⟨by omega, fun _ => ⟨inR64 (by omega) (by omega), fun _ => ⟨⟨⟨by omega, by omega⟩, by omega, by omega⟩, ?_, ?_, ?_⟩⟩⟩⟩
                · rw [e2]
                · rw [e1]
                · rw [e3]
              · rename_i hp
                obtain ⟨e1, e2⟩ := nx_neg hp
                refine .inl ⟨?_, ?_, ?_⟩
                · rw [e1]
                · rw [e1]
                · rw [e2]
            · intro b' _
              cases b'
              · simp +contextual (maxSteps := 5000000) only [go_sem, ↓reduceIte, eI_at, eI_set, List.length_set, tn_add, tn_add1, tn_sub, tn_sub1, sh1, sh1b, half_cast, ↓Prod.exists, ↓Bool.exists_bool, idB]
                exact ⟨q1, fun b hb => ⟨inR64 (by omega) (by omega), fun _ => ⟨j + 1, .inl ⟨⟨⟨rfl, by simp⟩, q2, rfl⟩, by omega, by omega⟩⟩⟩⟩
              · simp +contextual (maxSteps := 5000000) only [go_sem, ↓reduceIte, eI_at, eI_set, List.length_set, tn_add, tn_add1, tn_sub, tn_sub1, sh1, sh1b, half_cast, ↓Prod.exists, ↓Bool.exists_bool, idB]
                exact ⟨q1, fun b hb => ⟨inR64 (by omega) (by omega), fun _ => ⟨j + 1, .inr ⟨⟨⟨rfl, by simp⟩, q2, rfl⟩, by omega, by omega⟩⟩⟩⟩
          · rename_i hge
            have hj' : j = ks.length := by omega
            subst hj'
            refine M_loopI (fun i : Nat => ⟨[(0, .yld 999), (76, .vec 1043 (rsA (byF p2) ks rest ks.length).length), (77, .int .i64 (rsA (byF p2) ks rest ks.length).length), (78, .int .i64 i)], [(999, .yl (L.map eY) ((L.take (n0.toNat + ks.length + i)).map eY) false), (1043, .vec 3 1 ((rsA (byF p2) ks rest ks.length).map eI) 0)]⟩) (fun i => (rsA (byF p2) ks rest ks.length).length - i) (fun i => i ≤ (rsA (byF p2) ks rest ks.length).length) 0 ?_ ?_
            · simp +contextual (maxSteps := 5000000) only [go_sem, ↓reduceIte, eI_at, eI_set, List.length_set, tn_add, tn_add1, tn_sub, tn_sub1, sh1, sh1b, half_cast]
              rfl
            · intro i hi
              simp +contextual (maxSteps := 5000000) only [go_sem, ↓reduceIte, eI_at, eI_set, List.length_set, tn_add, tn_add1, tn_sub, tn_sub1, sh1, sh1b, half_cast]
              split
              · rename_i hlt
                obtain ⟨q1, q2⟩ := yl_step (a2 hlt)
                exact ⟨q1, fun b hb => ⟨inR64 (by omega) (by omega), fun _ => ⟨i + 1, ⟨by simp, q2⟩, by omega, by omega⟩⟩⟩
              · rw [List.take_of_length_le (by omega)]
        · simp +contextual (maxSteps := 5000000) only [go_sem, ↓reduceIte, eI_at, eI_set, List.length_set, tn_add, tn_add1, tn_sub, tn_sub1, sh1, sh1b, half_cast, idB]
          split
          · rename_i hlt
            obtain ⟨q1, q2⟩ := yl_step (a1 hlt)
            refine M_join (fun b' : Bool => ⟨[(0, .yld 999), (10, cM (byM p2)), (12, .vec (idB b') (nxR (byF p2) (rsA (byF p2) ks rest j) (ks.getD j 0)).length), (15, .loc 15 0), (46, .vec 46 ks.length), (47, .int .i64 ks.length), (48, .int .i64 j)],
              [(999, .yl (L.map eY) ((L.take (n0.toNat + j)).map eY) false), (46, .vec 3 1 (ks.map eI) 0), (idB b', .vec 3 1 ((nxR (byF p2) (rsA (byF p2) ks rest j) (ks.getD j 0)).map eI) 0), (15, .blk [.int .i64 (-1), .int .i64 (ks.getD j 0), .int .i64 (itR (byF p2) (rsA (byF p2) ks rest j) (ks.getD j 0)).2.2] false)]⟩) (fun _ => True) ?_ ?_
            · simp +contextual (maxSteps := 5000000) only [go_sem, ↓reduceIte, eI_at, eI_set, List.length_set, tn_add, tn_add1, tn_sub, tn_sub1, sh1, sh1b, half_cast, ↓Bool.exists_bool, idB, c_by1, st_by1, dM_eM, cm_idx, idx_e, stm_idx, cm_del, del_e, stm_del, alt1, alt2]
              refine ⟨i2 _, by omega, ?_⟩
              have e : mlk (byM p2) (ks.getD j 0) - 1 = byF p2 (ks.getD j 0) := rfl
              rw [e]
              have hix := @idx_le (byF p2 (ks.getD j 0)) (rsA (byF p2) ks rest j) 0
              split
              · rename_i hp
                obtain ⟨e1, e2, e3⟩ := nx_pos hp
                refine ⟨by simpa using hix, fun _ => ⟨by omega, fun _ => ⟨inR64 (by omega) (by omega), fun _ => ⟨⟨⟨by omega, by omega⟩, by omega, by omega⟩, ?_, ?_, ?_⟩⟩⟩⟩
                · rw [e2]
                · rw [e1]
                · rw [e3]
              · rename_i hp
                obtain ⟨e1, e2⟩ := nx_neg hp
                refine .inr ⟨?_, ?_, ?_⟩
                · rw [e1]
                · rw [e1]
                · rw [e2]
            · intro b' _
              cases b'
              · simp +contextual (maxSteps := 5000000) only [go_sem, ↓reduceIte, eI_at, eI_set, List.length_set, tn_add, tn_add1, tn_sub, tn_sub1, sh1, sh1b, half_cast, ↓Prod.exists, ↓Bool.exists_bool, idB]
                exact ⟨q1, fun b hb => ⟨inR64 (by omega) (by omega), fun _ => ⟨j + 1, .inl ⟨⟨⟨rfl, by simp⟩, q2, rfl⟩, by omega, by omega⟩⟩⟩⟩
              · simp +contextual (maxSteps := 5000000) only [go_sem, ↓reduceIte, eI_at, eI_set, List.length_set, tn_add, tn_add1, tn_sub, tn_sub1, sh1, sh1b, half_cast, ↓Prod.exists, ↓Bool.exists_bool, idB]
                exact ⟨q1, fun b hb => ⟨inR64 (by omega) (by omega), fun _ => ⟨j + 1, .inr ⟨⟨⟨rfl, by simp⟩, q2, rfl⟩, by omega, by omega⟩⟩⟩⟩
          · rename_i hge
            have hj' : j = ks.length := by omega
            subst hj'
            refine M_loopI (fun i : Nat => ⟨[(0, .yld 999), (76, .vec 43 (rsA (byF p2) ks rest ks.length).length), (77, .int .i64 (rsA (byF p2) ks rest ks.length).length), (78, .int .i64 i)], [(999, .yl (L.map eY) ((L.take (n0.toNat + ks.length + i)).map eY) false), (43, .vec 3 1 ((rsA (byF p2) ks rest ks.length).map eI) 0)]⟩) (fun i => (rsA (byF p2) ks rest ks.length).length - i) (fun i => i ≤ (rsA (byF p2) ks rest ks.length).length) 0 ?_ ?_
            · simp +contextual (maxSteps := 5000000) only [go_sem, ↓reduceIte, eI_at, eI_set, List.length_set, tn_add, tn_add1, tn_sub, tn_sub1, sh1, sh1b, half_cast]
              rfl
            · intro i hi
              simp +contextual (maxSteps := 5000000) only [go_sem, ↓reduceIte, eI_at, eI_set, List.length_set, tn_add, tn_add1, tn_sub, tn_sub1, sh1, sh1b, half_cast]
              split
              · rename_i hlt
                obtain ⟨q1, q2⟩ := yl_step (a2 hlt)
                exact ⟨q1, fun b hb => ⟨inR64 (by omega) (by omega), fun _ => ⟨i + 1, ⟨by simp, q2⟩, by omega, by omega⟩⟩⟩
              · rw [List.take_of_length_le (by omega)]
end Go.Proofs.Ytojhjhnmfjdbeaa

set_option linter.unusedSimpArgs false
namespace Go.Proofs.Ytojhjhnmfjdbeaa
open Go.Tn
set_option maxHeartbeats 8000000
set_option maxRecDepth 100000

def c_rof (caps args : List D) : Prop × Out := match caps, args with | [], [.sl 2 rows, .int .i64 k] => (rows = (rows.map dP).map eP, .ret (.int .i64 (ofF (rows.map dP) k))) | _, _ => (False, .ret .any)
theorem st_rof : StC Try.prog 28 c_rof := by
  intro caps args; unfold c_rof; split
  · rename_i rows k
    intro h
    have := fc_rof (rows.map dP) k
    rw [← h] at this
    exact this
  · exact fun h => h.elim
def c_rRestB (caps args : List D) : Prop × Out := match caps, args with | [], [.sl 2 rows, .int .i64 n] => (rows = (rows.map dP).map eP ∧ n ≤ 1000000000, .own 3 1 ((rrB (rows.map dP) n.toNat).map eI)) | _, _ => (False, .ret .any)
theorem st_rRestB : StC Try.prog 29 c_rRestB := by
  intro caps args; unfold c_rRestB; split
  · rename_i rows n
    rintro ⟨h, hn⟩
    have := fc_rRestB (rows.map dP) n hn
    rw [← h] at this
    exact this
  · exact fun h => h.elim
noncomputable def c_rCheck (caps args : List D) : Prop × Out := match caps, args with | [], [.sl 2 rows, .int .i64 na, .int .i64 nb] => (rows = (rows.map dP).map eP, .ret (.int .i64 (rchk (rows.map dP) na nb))) | _, _ => (False, .ret .any)
theorem st_rCheck : StC Try.prog 27 c_rCheck := by
  intro caps args; unfold c_rCheck; split
  · rename_i rows na nb
    intro h
    have := fc_rCheck (rows.map dP) na nb
    rw [← h] at this
    exact this
  · exact fun h => h.elim
def c_In (caps args : List D) : Prop × Out := match caps, args with | [], [.sl 1 rows, .int .i64 k] => (rows = (rows.map dI).map eI, .ret (.bool (decide (k ∈ rows.map dI)))) | _, _ => (False, .ret .any)
theorem st_In : StC Try.prog 23 c_In := by
  intro caps args; unfold c_In; split
  · rename_i rows k
    intro h
    have := fc_In (rows.map dI) k
    rw [← h] at this
    exact this
  · exact fun h => h.elim
def rtA (p0 p1 : List (Int × Int)) (n : Nat) : List (Int × Int × Int) := (List.range n).map fun i : Nat => ((i : Int), ofF p0 i, ofF p1 i)
def rbF (p2 : List (Int × Int)) (bs : List Int) (x : Int) : Int := if ofF p2 x ∈ bs then ofF p2 x else -1
def rtB (p2 : List (Int × Int)) (la bs : List Int) : List (Int × Int × Int) := la.map fun x => (-1, x, rbF p2 bs x)
def rtC (used bs : List Int) : List (Int × Int × Int) := (bs.filter fun x => !decide (x ∈ used)).map fun x => (-1, -1, x)
def rtL (p0 p1 p2 : List (Int × Int)) (n0 n1 n2 : Int) : List (Int × Int × Int) :=
  rtA p0 p1 n0.toNat ++ rtB p2 (rrB p0 n1.toNat) (rrB p1 n2.toNat) ++ rtC ((rrB p0 n1.toNat).map (rbF p2 (rrB p1 n2.toNat))) (rrB p1 n2.toNat)
noncomputable def rtOut (p0 p1 p2 : List (Int × Int)) (n0 n1 n2 : Int) : D :=
  if rchk p0 n0 n1 ≠ 0 then .tup [.nil, .int .i64 (rchk p0 n0 n1)] else if rchk p1 n0 n2 ≠ 0 then .tup [.nil, .int .i64 (rchk p1 n0 n2)] else if rchk p2 n1 n2 ≠ 0 then .tup [.nil, .int .i64 (rchk p2 n1 n2)]
  else .tup [.sl 3 ((rtL p0 p1 p2 n0 n1 n2).map eT), .int .i64 0]
theorem rtA_succ (p0 p1 : List (Int × Int)) (n : Nat) : (rtA p0 p1 (n + 1)).map eT = (rtA p0 p1 n).map eT ++ [[.int .i64 (n : Int), .int .i64 (ofF p0 n), .int .i64 (ofF p1 n)]] := by
  unfold rtA; rw [List.range_succ, List.map_append, List.map_append]; rfl
theorem rtA_len (p0 p1 : List (Int × Int)) (n : Nat) : (rtA p0 p1 n).length = n := by simp [rtA]
theorem rtB_len (p2 : List (Int × Int)) (la bs : List Int) : (rtB p2 la bs).length = la.length := by simp [rtB]
theorem rtC_len (u bs : List Int) : (rtC u bs).length ≤ bs.length := by
  unfold rtC; rw [List.length_map]; exact List.length_filter_le _ _
theorem fc_rTrios (p0 p1 p2 : List (Int × Int)) (n0 n1 n2 : Int) (h0 : n0 < 1000000000) (h1 : n1 < 1000000000) (h2 : n2 < 1000000000) :
    FC Try.prog 12 [] [.sl 2 (p0.map eP), .sl 2 (p1.map eP), .sl 2 (p2.map eP), .int .i64 n0, .int .i64 n1, .int .i64 n2] (.ret (rtOut p0 p1 p2 n0 n1 n2)) := by
  refine fc_M (fn := Try.f12) (C := (tab [(27, c_rCheck), (28, c_rof), (29, c_rRestB), (23, c_In)] [])) (rs := [12, 13]) mixed (by kernel_rfl) (by kernel_rfl) rfl rfl (by kernel_rfl) (by intro ys h; cases h) ?_
  unfold rtOut
  generalize hc0 : rchk p0 n0 n1 = c0
  generalize hc1 : rchk p1 n0 n2 = c1
  generalize hc2 : rchk p2 n1 n2 = c2
  by_cases e0 : c0 = 0
  · by_cases e1 : c1 = 0
    · by_cases e2 : c2 = 0
      · simp +contextual (maxSteps := 5000000) only [go_sem, ↓reduceIte, c_rCheck, st_rCheck, dP_eP, hc0, hc1, hc2, e0, e1, e2]
        refine M_loopI (fun i : Nat => ⟨[(0, .sl 2 (p0.map eP)), (1, .sl 2 (p1.map eP)), (2, .sl 2 (p2.map eP)), (3, .int .i64 n0), (4, .int .i64 n1), (5, .int .i64 n2), (17, .vec 62 i), (18, .int .i64 i)], [(62, .vec 51 3 ((rtA p0 p1 i).map eT) 0)]⟩) (fun i => n0.toNat - i) (fun i => i ≤ n0.toNat) 0 ?_ ?_
        · simp +contextual (maxSteps := 5000000) only [go_sem, ↓reduceIte, rtA]
          rfl
        · intro i hi
          by_cases hlt : (i : Int) < n0
          · have hs := rtA_succ p0 p1 i
            simp +contextual (maxSteps := 5000000) only [go_sem, ↓reduceIte, hlt, c_rof, st_rof, dP_eP, rtA_len]
            simp only [aa, inR_iff]
            exact ⟨by omega, by omega, i + 1, ⟨⟨rfl, by simp⟩, hs.symm⟩, by omega, by omega⟩
          · obtain rfl : i = n0.toNat := by omega
            simp +contextual (maxSteps := 5000000) only [go_sem, ↓reduceIte, hlt, c_rRestB, st_rRestB, dP_eP, rtA_len]
            refine ⟨by omega, by omega, ?_⟩
            have la1 := rrB_len p0 n1.toNat
            have lb1 := rrB_len p1 n2.toNat
            unfold rtL
            generalize rrB p0 n1.toNat = la at *
            generalize rrB p1 n2.toNat = lb at *
            have hA := rtA_len p0 p1 n0.toNat
            generalize rtA p0 p1 n0.toNat = A at *
            refine M_loopI (fun j : Nat => ⟨[(2, .sl 2 (p2.map eP)), (17, .vec 62 (A.length + j)), (19, .vec 66 la.length), (20, .vec 69 lb.length), (21, .vec 98 j), (22, .int .i64 j)],
              [(62, .vec 51 3 ((A ++ rtB p2 (la.take j) lb).map eT) 0), (66, .vec 3 1 (la.map eI) 0), (69, .vec 3 1 (lb.map eI) 0), (98, .vec 3 1 (((la.take j).map (rbF p2 lb)).map eI) 0)]⟩) (fun j => la.length - j) (fun j => j ≤ la.length) 0 ?_ ?_
            · simp +contextual (maxSteps := 5000000) only [go_sem, ↓reduceIte, rtB, List.append_nil]
              exact ⟨by rw [hA], rfl⟩
            · intro j hj
              by_cases hjl : j < la.length
              · have hb : rtB p2 (la.take (j + 1)) lb = rtB p2 (la.take j) lb ++ [(-1, la.getD j 0, rbF p2 lb (la.getD j 0))] := by
                  unfold rtB
                  rw [List.take_add_one, List.getElem?_eq_getElem hjl, List.map_append, List.getD_eq_getElem?_getD, List.getElem?_eq_getElem hjl]; rfl
                have hu : (la.take (j + 1)).map (rbF p2 lb) = (la.take j).map (rbF p2 lb) ++ [rbF p2 lb (la.getD j 0)] := by
                  rw [List.take_add_one, List.getElem?_eq_getElem hjl, List.map_append, List.getD_eq_getElem?_getD, List.getElem?_eq_getElem hjl]; rfl
                have hl2 := rtB_len p2 (la.take j) lb
                rw [List.length_take] at hl2
                simp +contextual (maxSteps := 5000000) only [go_sem, ↓reduceIte, hjl, eI_at, c_rof, st_rof, c_In, st_In, dP_eP, dI_eI]
                simp only [aa, inR_iff]
                split
                · rename_i h
                  have hr : rbF p2 lb (la.getD j 0) = -1 := by unfold rbF; rw [if_neg h]
                  rw [hr] at hb hu
                  refine ⟨⟨by omega, by omega⟩, ⟨by omega, by omega⟩, by omega, j + 1, ⟨⟨rfl, rfl, by simp⟩, ?_, ?_⟩, by omega, by omega⟩
                  · rw [hb, ← List.append_assoc, List.map_append (l₂ := [_])]; rfl
                  · rw [hu, List.map_append]; rfl
                · rename_i h
                  have hr : rbF p2 lb (la.getD j 0) = ofF p2 (la.getD j 0) := by unfold rbF; rw [if_pos (Classical.not_not.1 h)]
                  rw [hr] at hb hu
                  refine ⟨⟨by omega, by omega⟩, ⟨by omega, by omega⟩, by omega, j + 1, ⟨⟨rfl, rfl, by simp⟩, ?_, ?_⟩, by omega, by omega⟩
                  · rw [hb, ← List.append_assoc, List.map_append (l₂ := [_])]; rfl
                  · rw [hu, List.map_append]; rfl
              · obtain rfl : j = la.length := by omega
                have hl2 := rtB_len p2 la lb
                rw [List.take_of_length_le (Nat.le_refl _)]
                generalize hAB : A ++ rtB p2 la lb = AB
                have hABl : AB.length = A.length + la.length := by rw [← hAB, List.length_append, hl2]
                have hus : (la.map (rbF p2 lb)).length = la.length := List.length_map _
                generalize la.map (rbF p2 lb) = us at *
                simp +contextual (maxSteps := 5000000) only [go_sem, ↓reduceIte, Nat.lt_irrefl]
                refine M_loopI (fun r : Nat => ⟨[(17, .vec 62 (AB.length + (rtC us (lb.take r)).length)), (20, .vec 69 lb.length), (21, .vec 98 la.length), (25, .int .i64 r)],
                  [(62, .vec 51 3 ((AB ++ rtC us (lb.take r)).map eT) 0), (69, .vec 3 1 (lb.map eI) 0), (98, .vec 3 1 (us.map eI) 0)]⟩) (fun r => lb.length - r) (fun r => r ≤ lb.length) 0 ?_ ?_
                · simp +contextual (maxSteps := 5000000) only [go_sem, ↓reduceIte, rtC, List.filter_nil, List.append_nil]
                  exact ⟨by rw [hABl], rfl⟩
                · intro r hr
                  have hcl := rtC_len us (lb.take r)
                  rw [List.length_take] at hcl
                  by_cases hrl : r < lb.length
                  · have hc : rtC us (lb.take (r + 1)) = rtC us (lb.take r) ++ if lb.getD r 0 ∈ us then [] else [(-1, -1, lb.getD r 0)] := by
                      unfold rtC
                      rw [List.take_add_one, List.getElem?_eq_getElem hrl, List.filter_append, List.map_append, List.getD_eq_getElem?_getD, List.getElem?_eq_getElem hrl]
                      congr 1
                      simp only [Option.toList_some, Option.getD_some, List.filter_cons, List.filter_nil]
                      by_cases h : lb[r] ∈ us
                      · rw [if_pos h, decide_eq_true h]; rfl
                      · rw [if_neg h, decide_eq_false h]; rfl
                    simp +contextual (maxSteps := 5000000) only [go_sem, ↓reduceIte, hrl, eI_at, c_In, st_In, dI_eI]
                    simp only [aa, inR_iff]
                    refine ⟨hus, ?_⟩
                    split
                    · rename_i h
                      rw [if_neg h] at hc
                      refine ⟨by omega, by omega, r + 1, ⟨⟨by rw [hc, List.length_append]; rfl, by simp⟩, ?_⟩, by omega, by omega⟩
                      rw [hc, ← List.append_assoc, List.map_append (l₂ := [_])]; rfl
                    · rename_i h
                      rw [if_pos (Classical.not_not.1 h), List.append_nil] at hc
                      exact ⟨by omega, r + 1, ⟨⟨by rw [hc], by simp⟩, by rw [hc]⟩, by omega, by omega⟩
                  · obtain rfl : r = lb.length := by omega
                    simp +contextual (maxSteps := 5000000) only [go_sem, ↓reduceIte, Nat.lt_irrefl]
                    rw [List.take_of_length_le (Nat.le_refl _)]
      · simp +contextual (maxSteps := 5000000) only [go_sem, ↓reduceIte, c_rCheck, st_rCheck, dP_eP, hc0, hc1, hc2, e0, e1, e2]
    · simp +contextual (maxSteps := 5000000) only [go_sem, ↓reduceIte, c_rCheck, st_rCheck, dP_eP, hc0, hc1, hc2, e0, e1]
  · simp +contextual (maxSteps := 5000000) only [go_sem, ↓reduceIte, c_rCheck, st_rCheck, dP_eP, hc0, hc1, hc2, e0]
end Go.Proofs.Ytojhjhnmfjdbeaa

set_option linter.unusedSimpArgs false
namespace Go.Proofs.Ytojhjhnmfjdbeaa
open Go.Tn
set_option maxHeartbeats 8000000
set_option maxRecDepth 100000
def cellF (t : Tab) (r c : Int) : List UInt8 := if r < 0 ∨ t.2.length ≤ r ∨ c < 0 ∨ (t.2.getD r.toNat []).length ≤ c then [] else (t.2.getD r.toNat []).getD c.toNat []
abbrev dTab (t : Tab) : D := .agg [.sl 1 (t.1.map eS), .sl 1 (t.2.map eR)]
theorem fc_Cell (t : Tab) (r c : Int) : FC Try.prog 24 [] [dTab t, .int .i64 r, .int .i64 c] (.ret (.str (cellF t r c))) := by
  refine fc_M (fn := Try.f24) (C := (tab [] [])) (rs := [6]) mixed (by kernel_rfl) (by kernel_rfl) rfl rfl (by kernel_rfl) (by intro ys h; cases h) ?_
  unfold cellF
  by_cases h0 : r < 0
  · simp +contextual (maxSteps := 5000000) only [go_sem, ↓reduceIte, h0]
  · by_cases h1 : t.2.length ≤ r
    · simp +contextual (maxSteps := 5000000) only [go_sem, ↓reduceIte, h0, h1]
    · obtain ⟨i, rfl⟩ : ∃ i : Nat, r = i := ⟨r.toNat, by omega⟩
      have hi : i < t.2.length := by omega
      by_cases h2 : c < 0
      · simp +contextual (maxSteps := 5000000) only [go_sem, ↓reduceIte, h0, h1, hi, eR_at, h2]
        all_goals (try simp)
        all_goals (try omega)
      · obtain ⟨k, rfl⟩ : ∃ i : Nat, c = i := ⟨c.toNat, by omega⟩
        by_cases h3 : k < (t.2.getD i []).length
        · simp +contextual (maxSteps := 5000000) only [go_sem, ↓reduceIte, h0, h1, hi, eR_at, eS_at, h2, h3]
          all_goals omega
        · simp +contextual (maxSteps := 5000000) only [go_sem, ↓reduceIte, h0, h1, hi, eR_at, eS_at, h2, h3]
          all_goals omega
theorem fc_rCell (t : Tab) (r c : Int) : FC Try.prog 53 [] [dTab t, .int .i64 r, .int .i64 c] (.ret (.str (cellF t r c))) := by
  refine fc_M (fn := Try.f53) (C := (tab [] [])) (rs := [6]) mixed (by kernel_rfl) (by kernel_rfl) rfl rfl (by kernel_rfl) (by intro ys h; cases h) ?_
  unfold cellF
  by_cases h0 : r < 0
  · simp +contextual (maxSteps := 5000000) only [go_sem, ↓reduceIte, h0]
  · by_cases h1 : t.2.length ≤ r
    · simp +contextual (maxSteps := 5000000) only [go_sem, ↓reduceIte, h0, h1]
    · obtain ⟨i, rfl⟩ : ∃ i : Nat, r = i := ⟨r.toNat, by omega⟩
      have hi : i < t.2.length := by omega
      by_cases h2 : c < 0
      · simp +contextual (maxSteps := 5000000) only [go_sem, ↓reduceIte, h0, h1, hi, eR_at, h2]
        all_goals (try simp)
        all_goals (try omega)
      · obtain ⟨k, rfl⟩ : ∃ i : Nat, c = i := ⟨c.toNat, by omega⟩
        by_cases h3 : k < (t.2.getD i []).length
        · simp +contextual (maxSteps := 5000000) only [go_sem, ↓reduceIte, h0, h1, hi, eR_at, eS_at, h2, h3]
          all_goals omega
        · simp +contextual (maxSteps := 5000000) only [go_sem, ↓reduceIte, h0, h1, hi, eR_at, eS_at, h2, h3]
          all_goals omega
end Go.Proofs.Ytojhjhnmfjdbeaa

set_option linter.unusedSimpArgs false
namespace Go.Proofs.Ytojhjhnmfjdbeaa
open Go.Tn
set_option maxHeartbeats 8000000
set_option maxRecDepth 100000

theorem drop_cons {α : Type} {l : List α} {i : Nat} {d : α} (h : i < l.length) : l.drop i = l.getD i d :: l.drop (i + 1) := by
  rw [List.drop_eq_getElem_cons h, List.getD_eq_getElem?_getD, List.getElem?_eq_getElem h]; rfl
def fewIn : List (List UInt8) → Nat → Option Nat
  | [], n => some n
  | s :: r, n => if 8000 < n + s.length + 1 then none else fewIn r (n + s.length + 1)
def fewOn (x : Option Nat) (k : Nat → Bool) : Bool := match x with | none => false | some m => k m
def fewOut : List (List (List UInt8)) → Nat → Bool
  | [], _ => true
  | r :: l, n => if 60 < r.length then false else fewOn (fewIn r n) (fewOut l)
def few3 (l : List (List (List UInt8))) : Bool := if 60 < l.length then false else fewOut l 0
theorem fc_few3 (l : List (List (List UInt8))) : FC Try.prog 36 [] [.sl 1 (l.map eR)] (.ret (.bool (few3 l))) := by
  refine fc_M (fn := Try.f36) (C := (tab [] [])) (rs := [2]) mixed (by kernel_rfl) (by kernel_rfl) rfl rfl (by kernel_rfl) (by intro ys h; cases h) ?_
  unfold few3
  by_cases h60 : 60 < l.length
  · rw [if_pos h60]
    have h60 : (60 : Int) < l.length := by omega
    simp +contextual (maxSteps := 5000000) only [go_sem, ↓reduceIte, h60]
  · rw [if_neg h60]
    have h60 : ¬ (60 : Int) < l.length := by omega
    simp +contextual (maxSteps := 5000000) only [go_sem, ↓reduceIte, h60]
    intro hl
    refine M_loopI (fun s : Nat × Nat => ⟨[(0, .sl 1 (l.map eR)), (3, .int .i64 s.2), (4, .int .i64 s.1)], []⟩) (fun s => l.length - s.1) (fun s => s.1 ≤ l.length ∧ s.2 ≤ 8000 ∧ fewOut (l.drop s.1) s.2 = fewOut l 0) (0, 0) ?_ ?_
    · simp +contextual (maxSteps := 5000000) only [go_sem, ↓reduceIte]
      rfl
    · intro ⟨i, n⟩ hi
      obtain ⟨hi, hn, hf⟩ := hi
      simp only at hi hn hf
      by_cases hlt : i < l.length
      · rw [drop_cons (d := []) hlt] at hf
        simp only [fewOut] at hf
        by_cases h6 : 60 < (l.getD i []).length
        · rw [if_pos h6] at hf
          have h6 : (60 : Int) < (l.getD i []).length := by omega
          simp +contextual (maxSteps := 5000000) only [go_sem, ↓reduceIte, hlt, eR_at, h6]
          exact fun _ _ => hf
        · rw [if_neg h6] at hf
          have h6 : ¬ (60 : Int) < (l.getD i []).length := by omega
          simp +contextual (maxSteps := 5000000) only [go_sem, ↓reduceIte, hlt, eR_at, h6]
          intro _ hrl
          refine M_loopI (fun s : Nat × Nat => ⟨[(0, .sl 1 (l.map eR)), (3, .int .i64 s.2), (4, .int .i64 i), (5, .int .i64 s.1)], []⟩) (fun s => (l.getD i []).length - s.1) (fun s => s.1 ≤ (l.getD i []).length ∧ s.2 ≤ 8000 ∧ fewIn ((l.getD i []).drop s.1) s.2 = fewIn (l.getD i []) n) (0, n) ?_ ?_
          · simp +contextual (maxSteps := 5000000) only [go_sem, ↓reduceIte]
            exact ⟨rfl, hn⟩
          · intro ⟨k, m⟩ hk
            obtain ⟨hk, hm, hg⟩ := hk
            simp only at hk hm hg
            by_cases hkl : k < (l.getD i []).length
            · rw [drop_cons (d := []) hkl] at hg
              simp only [fewIn] at hg
              simp +contextual (maxSteps := 5000000) only [go_sem, ↓reduceIte, hlt, eR_at, eS_at, hkl]
              simp only [aa, inR_iff]
              intro _ _
              refine ⟨by omega, by omega, ?_⟩
              split
              · rename_i h8
                rw [if_pos (by omega)] at hg
                rw [← hg] at hf
                exact hf
              · rename_i h8
                rw [if_neg (by omega)] at hg
                exact ⟨by omega, (k + 1, m + ((l.getD i []).getD k []).length + 1), ⟨by simp, by simp⟩, by simp only; omega, by simp only; omega, by simp only; omega, hg⟩
            · rw [List.drop_of_length_le (by omega)] at hg
              simp only [fewIn] at hg
              rw [← hg] at hf
              simp +contextual (maxSteps := 5000000) only [go_sem, ↓reduceIte, hlt, eR_at, hkl]
              simp only [aa, inR_iff]
              exact fun _ => ⟨by omega, (i + 1, m), ⟨rfl, by simp⟩, by simp only; omega, by simp only; omega, hm, hf⟩
      · simp +contextual (maxSteps := 5000000) only [go_sem, ↓reduceIte, hlt]
        intro _
        rw [List.drop_of_length_le (by omega)] at hf
        rw [← hf]; rfl
def slen (r : List (List UInt8)) : Nat := (r.map List.length).sum
def rlen (l : List (List (List UInt8))) : Nat := (l.map slen).sum
theorem slen_cons (s : List UInt8) (r : List (List UInt8)) : slen (s :: r) = s.length + slen r := rfl
theorem rlen_cons (r : List (List UInt8)) (l : List (List (List UInt8))) : rlen (r :: l) = slen r + rlen l := rfl
theorem fc_Total (t : Tab) (h : slen t.1 + rlen t.2 < 2000000000) : FC Try.prog 37 [] [dTab t] (.ret (.int .i64 (slen t.1 + rlen t.2 : Nat))) := by
  refine fc_M (fn := Try.f37) (C := (tab [] [])) (rs := [2]) mixed (by kernel_rfl) (by kernel_rfl) rfl rfl (by kernel_rfl) (by intro ys h; cases h) ?_
  simp +contextual (maxSteps := 5000000) only [go_sem, ↓reduceIte]
  refine M_loopI (fun s : Nat × Nat => ⟨[(1, .loc 1 0), (3, .int .i64 s.2), (4, .int .i64 s.1)], [(1, .blk [.sl 1 (t.1.map eS), .sl 1 (t.2.map eR)] false)]⟩) (fun s => t.1.length - s.1) (fun s => s.1 ≤ t.1.length ∧ s.2 + slen (t.1.drop s.1) = slen t.1) (0, 0) ?_ ?_
  · simp +contextual (maxSteps := 5000000) only [go_sem, ↓reduceIte]
    rfl
  · intro ⟨i, n⟩ hi
    obtain ⟨hi, hf⟩ := hi
    simp only at hi hf
    by_cases hlt : i < t.1.length
    · rw [drop_cons (d := []) hlt, slen_cons] at hf
      simp +contextual (maxSteps := 5000000) only [go_sem, ↓reduceIte, hlt, eS_at]
      simp only [aa, inR_iff]
      exact fun _ _ => ⟨by omega, by omega, (i + 1, n + (t.1.getD i []).length), ⟨by simp, by simp⟩, by simp only; omega, by simp only; omega, by simp only; omega⟩
    · rw [List.drop_of_length_le (by omega)] at hf
      obtain rfl : n = slen t.1 := by simpa [slen] using hf
      simp +contextual (maxSteps := 5000000) only [go_sem, ↓reduceIte, hlt]
      intro _
      clear hf hlt hi
      refine M_loopI (fun s : Nat × Nat => ⟨[(1, .loc 1 0), (3, .int .i64 s.2), (5, .int .i64 s.1)], [(1, .blk [.sl 1 (t.1.map eS), .sl 1 (t.2.map eR)] false)]⟩) (fun s => t.2.length - s.1) (fun s => s.1 ≤ t.2.length ∧ s.2 + rlen (t.2.drop s.1) = slen t.1 + rlen t.2) (0, slen t.1) ?_ ?_
      · simp +contextual (maxSteps := 5000000) only [go_sem, ↓reduceIte]
        rfl
      · intro ⟨i, n⟩ hi
        obtain ⟨hi, hf⟩ := hi
        simp only at hi hf
        by_cases hlt : i < t.2.length
        · rw [drop_cons (d := []) hlt, rlen_cons] at hf
          simp +contextual (maxSteps := 5000000) only [go_sem, ↓reduceIte, hlt, eR_at]
          intro _
          refine M_loopI (fun s : Nat × Nat => ⟨[(1, .loc 1 0), (3, .int .i64 s.2), (5, .int .i64 i), (6, .int .i64 s.1)], [(1, .blk [.sl 1 (t.1.map eS), .sl 1 (t.2.map eR)] false)]⟩) (fun s => (t.2.getD i []).length - s.1) (fun s => s.1 ≤ (t.2.getD i []).length ∧ s.2 + slen ((t.2.getD i []).drop s.1) = n + slen (t.2.getD i [])) (0, n) ?_ ?_
          · simp +contextual (maxSteps := 5000000) only [go_sem, ↓reduceIte]
            rfl
          · intro ⟨k, m⟩ hk
            obtain ⟨hk, hg⟩ := hk
            simp only at hk hg
            by_cases hkl : k < (t.2.getD i []).length
            · rw [drop_cons (d := []) hkl, slen_cons] at hg
              simp +contextual (maxSteps := 5000000) only [go_sem, ↓reduceIte, hlt, eR_at, eS_at, hkl]
              simp only [aa, inR_iff]
              exact fun _ _ => ⟨by omega, by omega, (k + 1, m + ((t.2.getD i []).getD k []).length), ⟨by simp, by simp⟩, by simp only; omega, by simp only; omega, by simp only; omega⟩
            · rw [List.drop_of_length_le (by omega)] at hg
              have hg : m = n + slen (t.2.getD i []) := by simpa [slen] using hg
              simp +contextual (maxSteps := 5000000) only [go_sem, ↓reduceIte, hlt, eR_at, hkl]
              simp only [aa, inR_iff]
              exact fun _ => ⟨by omega, (i + 1, m), ⟨rfl, by simp⟩, by simp only; omega, by simp only; omega, by simp only; omega⟩
        · rw [List.drop_of_length_le (by omega)] at hf
          have hf : n = slen t.1 + rlen t.2 := by simpa [rlen] using hf
          simp +contextual (maxSteps := 5000000) only [go_sem, ↓reduceIte, hlt]
          exact fun _ => hf
def c_few3 (caps args : List D) : Prop × Out := match caps, args with | [], [.sl 1 rows] => (rows = (rows.map dR).map eR, .ret (.bool (few3 (rows.map dR)))) | _, _ => (False, .ret .any)
theorem st_few3 : StC Try.prog 36 c_few3 := by
  intro caps args; unfold c_few3; split
  · rename_i rows
    intro h
    have := fc_few3 (rows.map dR)
    rw [← h] at this
    exact this
  · exact fun h => h.elim
def c_total (caps args : List D) : Prop × Out := match caps, args with | [], [.agg [.sl 1 hd, .sl 1 rows]] => ((hd = (hd.map dS).map eS ∧ rows = (rows.map dR).map eR) ∧ slen (hd.map dS) + rlen (rows.map dR) < 2000000000, .ret (.int .i64 (slen (hd.map dS) + rlen (rows.map dR) : Nat))) | _, _ => (False, .ret .any)
theorem st_total : StC Try.prog 37 c_total := by
  intro caps args; unfold c_total; split
  · rename_i hd rows
    rintro ⟨⟨h1, h2⟩, h3⟩
    have := fc_Total (hd.map dS, rows.map dR) h3
    simp only [dTab] at this
    rw [← h1, ← h2] at this
    exact this
  · exact fun h => h.elim
def few4 (t : Tab) : Bool := few3 t.2 && decide (t.1.length ≤ 60) && decide (slen t.1 + rlen t.2 ≤ 8000)
theorem fc_few4 (t : Tab) (h : slen t.1 + rlen t.2 < 2000000000) : FC Try.prog 18 [] [dTab t] (.ret (.bool (few4 t))) := by
  refine fc_M (fn := Try.f18) (C := (tab [(36, c_few3), (37, c_total)] [])) (rs := [2]) mixed (by kernel_rfl) (by kernel_rfl) rfl rfl (by kernel_rfl) (by intro ys h; cases h) ?_
  unfold few4
  cases hf : few3 t.2
  · simp +contextual (maxSteps := 5000000) only [go_sem, ↓reduceIte, c_few3, st_few3, c_total, st_total, dS_eS, dR_eR, hf, h]
  · by_cases h6 : t.1.length ≤ 60
    · have h6' : (t.1.length : Int) ≤ 60 := by omega
      simp +contextual (maxSteps := 5000000) only [go_sem, ↓reduceIte, c_few3, st_few3, c_total, st_total, dS_eS, dR_eR, hf, h, h6, h6']
      intro _
      congr 1
      apply propext
      omega
    · have h6' : ¬ (t.1.length : Int) ≤ 60 := by omega
      simp +contextual (maxSteps := 5000000) only [go_sem, ↓reduceIte, c_few3, st_few3, c_total, st_total, dS_eS, dR_eR, hf, h, h6, h6']
end Go.Proofs.Ytojhjhnmfjdbeaa

set_option linter.unusedSimpArgs false
namespace Go.Proofs.Ytojhjhnmfjdbeaa
open Go.Tn
set_option maxHeartbeats 8000000
set_option maxRecDepth 100000

def c_rcell (caps args : List D) : Prop × Out := match caps, args with | [], [.agg [.sl 1 hd, .sl 1 rows], .int .i64 r, .int .i64 c] => (hd = (hd.map dS).map eS ∧ rows = (rows.map dR).map eR, .ret (.str (cellF (hd.map dS, rows.map dR) r c))) | _, _ => (False, .ret .any)
theorem st_rcell : StC Try.prog 53 c_rcell := by
  intro caps args; unfold c_rcell; split
  · rename_i hd rows r c
    rintro ⟨h1, h2⟩
    have := fc_rCell (hd.map dS, rows.map dR) r c
    simp only [dTab] at this
    rw [← h1, ← h2] at this
    exact this
  · exact fun h => h.elim
def c_cell (caps args : List D) : Prop × Out := match caps, args with | [], [.agg [.sl 1 hd, .sl 1 rows], .int .i64 r, .int .i64 c] => (hd = (hd.map dS).map eS ∧ rows = (rows.map dR).map eR, .ret (.str (cellF (hd.map dS, rows.map dR) r c))) | _, _ => (False, .ret .any)
theorem st_cell : StC Try.prog 24 c_cell := by
  intro caps args; unfold c_cell; split
  · rename_i hd rows r c
    rintro ⟨h1, h2⟩
    have := fc_Cell (hd.map dS, rows.map dR) r c
    simp only [dTab] at this
    rw [← h1, ← h2] at this
    exact this
  · exact fun h => h.elim
def alikeF (a b : Tab) (i k : Int) (cols : List (Int × Int)) : Bool := decide (cols ≠ [] ∧ ∀ c ∈ cols, cellF a i c.1 = cellF b k c.2)
theorem fc_alike (a b : Tab) (i k : Int) (cols : List (Int × Int)) : FC Try.prog 42 [] [dTab a, dTab b, .int .i64 i, .int .i64 k, .sl 2 (cols.map eP)] (.ret (.bool (alikeF a b i k cols))) := by
  refine fc_M (fn := Try.f42) (C := (tab [(53, c_rcell)] [])) (rs := [10]) mixed (by kernel_rfl) (by kernel_rfl) rfl rfl (by kernel_rfl) (by intro ys h; cases h) ?_
  simp +contextual (maxSteps := 5000000) only [go_sem, ↓reduceIte]
  refine M_loopI (fun n : Nat => ⟨[(2, .int .i64 i), (3, .int .i64 k), (4, .sl 2 (cols.map eP)), (5, .loc 5 0), (6, .loc 6 0), (11, .int .i64 n)], [(5, .blk [.sl 1 (a.1.map eS), .sl 1 (a.2.map eR)] false), (6, .blk [.sl 1 (b.1.map eS), .sl 1 (b.2.map eR)] false)]⟩) (fun n => cols.length - n) (fun n => n ≤ cols.length ∧ ∀ j, j < n → cellF a i (cols.getD j (0, 0)).1 = cellF b k (cols.getD j (0, 0)).2) 0 ?_ ?_
  · simp +contextual (maxSteps := 5000000) only [go_sem, ↓reduceIte]
    rfl
  · intro n hn
    obtain ⟨hn, hc⟩ := hn
    by_cases hlt : n < cols.length
    · simp +contextual (maxSteps := 5000000) only [go_sem, ↓reduceIte, hlt, eP_at, c_rcell, st_rcell, dS_eS, dR_eR]
      intro _
      split
      · rename_i hne
        exact (decide_eq_false (fun h => hne (h.2 _ (getD_mem hlt)))).symm
      · rename_i he
        refine ⟨inR64 (by omega) (by omega), fun _ => ⟨n + 1, by simp, by omega, by omega, fun j hj => ?_⟩⟩
        rcases lt_cases hj with h | rfl
        · exact hc j h
        · exact Classical.not_not.1 he
    · simp +contextual (maxSteps := 5000000) only [go_sem, ↓reduceIte, hlt]
      intro _
      unfold alikeF
      congr 1
      apply propext
      refine ⟨fun h => ⟨fun e => by subst e; simp at h, fun c hm => ?_⟩, fun h => ?_⟩
      · obtain ⟨j, hj, rfl⟩ := List.getElem_of_mem hm
        have := hc j (by omega)
        rw [List.getD_eq_getElem?_getD, List.getElem?_eq_getElem hj] at this
        exact this
      · have := List.length_pos_iff.2 h.1
        omega
def c_alike (caps args : List D) : Prop × Out := match caps, args with
  | [], [.agg [.sl 1 hd, .sl 1 rows], .agg [.sl 1 hd', .sl 1 rows'], .int .i64 r, .int .i64 c, .sl 2 cs] => ((hd = (hd.map dS).map eS ∧ rows = (rows.map dR).map eR) ∧ (hd' = (hd'.map dS).map eS ∧ rows' = (rows'.map dR).map eR) ∧ cs = (cs.map dP).map eP,
    .ret (.bool (alikeF (hd.map dS, rows.map dR) (hd'.map dS, rows'.map dR) r c (cs.map dP)))) | _, _ => (False, .ret .any)
theorem st_alike : StC Try.prog 42 c_alike := by
  intro caps args; unfold c_alike; split
  · rename_i hd rows hd' rows' r c cs
    rintro ⟨⟨h1, h2⟩, ⟨h3, h4⟩, h5⟩
    have := fc_alike (hd.map dS, rows.map dR) (hd'.map dS, rows'.map dR) r c (cs.map dP)
    simp only [dTab] at this
    rw [← h1, ← h2, ← h3, ← h4, ← h5] at this
    exact this
  · exact fun h => h.elim
end Go.Proofs.Ytojhjhnmfjdbeaa

set_option linter.unusedSimpArgs false
namespace Go.Proofs.Ytojhjhnmfjdbeaa
open Go.Tn
set_option maxHeartbeats 8000000
set_option maxRecDepth 100000

/-- a closure that asks of a pair -/
def c_ask (cs : List D) (q : Int × Int → Bool) (l : List (Int × Int)) (caps args : List D) : Prop × Out :=
  match args with
  | [.agg [.int .i64 x, .int .i64 y]] => (caps = cs ∧ (x, y) ∈ l, .ret (.bool (q (x, y))))
  | _ => (False, .ret .any)
theorem st_ask {P : Program} {g : Nat} {cs : List D} {q : Int × Int → Bool} {l : List (Int × Int)} (h : ∀ x ∈ l, FC P g cs [.agg [.int .i64 x.1, .int .i64 x.2]] (.ret (.bool (q x)))) : StC P g (c_ask cs q l) := by
  intro caps args
  unfold c_ask
  split
  · rintro ⟨rfl, hx⟩; exact h _ hx
  · exact fun h => h.elim
def fidx {α : Type} (q : α → Bool) : List α → Nat → Int
  | [], _ => -1
  | x :: r, k => if q x = true then (k : Int) else fidx q r (k + 1)
theorem fidx_at {α : Type} {q : α → Bool} {d : α} : ∀ {l : List α} {k i : Nat}, i < l.length → q (l.getD i d) = true → (∀ j, j < i → q (l.getD j d) = false) → fidx q l k = (k + i : Nat)
  | [], _, _, h, _, _ => by simp at h
  | x :: l, k, 0, _, h, _ => by simp [fidx] at h ⊢; simp [h]
  | x :: l, k, i + 1, h, h1, h2 => by
    have hy : q x = false := by simpa using h2 0 (by omega)
    simp only [fidx, hy, Bool.false_eq_true, if_false]
    rw [fidx_at (i := i) (by simpa using h) (by simpa using h1) (fun j hj => by simpa using h2 (j + 1) (by omega))]
    omega
theorem fidx_no {α : Type} {q : α → Bool} {d : α} : ∀ {l : List α} {k : Nat}, (∀ j, j < l.length → q (l.getD j d) = false) → fidx q l k = -1
  | [], _, _ => rfl
  | x :: l, k, h => by
    have hy : q x = false := by simpa using h 0 (by simp)
    simp only [fidx, hy, Bool.false_eq_true, if_false]
    exact fidx_no fun j hj => by simpa using h (j + 1) (by simpa using hj)
theorem fc_ixP (g : Nat) (cs : List D) (hcs : cleanL [.fn g [] cs] = true) (q : Int × Int → Bool) (l : List (Int × Int)) (hl : l.length < 1000000000)
    (h : ∀ x ∈ l, FC Try.prog g cs [.agg [.int .i64 x.1, .int .i64 x.2]] (.ret (.bool (q x)))) :
    FC Try.prog 52 [] [.sl 2 (l.map eP), .fn g [] cs] (.ret (.int .i64 (fidx q l 0))) := by
  have cl := clrL_of (cl_fn hcs)
  have hst := st_ask h
  refine fc_M (fn := Try.f52) (C := (tab [(g, c_ask cs q l)] [])) (rs := [4]) mixed (by kernel_rfl) (by kernel_rfl) rfl rfl (by kernel_rfl) (by intro ys h; cases h) ?_
  simp +contextual (maxSteps := 5000000) only [go_sem, ↓reduceIte]
  intro _
  refine M_loopI (fun i : Nat => ⟨[(0, .sl 2 (l.map eP)), (1, .fn g [] cs), (7, .int .i64 l.length), (8, .int .i64 i)], []⟩) (fun i => l.length - i) (fun i => i ≤ l.length ∧ ∀ j, j < i → q (l.getD j (0, 0)) = false) 0 ?_ ?_
  · simp +contextual (maxSteps := 5000000) only [go_sem, ↓reduceIte, cl.cv6, cl.rf6, cl.nw6, cl.fz6, cl.cv5, cl.rf5, cl.nw5, cl.fz5, cl.wkL, cl.inOL]
    rfl
  · intro i hi
    obtain ⟨hi, hn⟩ := hi
    by_cases hlt : i < l.length
    · have hm := getD_mem (d := ((0 : Int), (0 : Int))) hlt
      cases hq : q (l.getD i (0, 0))
      · simp +contextual (maxSteps := 5000000) only [go_sem, ↓reduceIte, cl.cv6, cl.rf6, cl.nw6, cl.fz6, cl.cv5, cl.rf5, cl.nw5, cl.fz5, cl.wkL, cl.inOL, hlt, eP_at, c_ask, hst, hm, hq]
        refine ⟨inR64 (by omega) (by omega), fun _ => ⟨i + 1, by simp, by omega, by omega, fun j hj => ?_⟩⟩
        rcases lt_cases hj with h | rfl
        · exact hn j h
        · exact hq
      · simp +contextual (maxSteps := 5000000) only [go_sem, ↓reduceIte, cl.cv6, cl.rf6, cl.nw6, cl.fz6, cl.cv5, cl.rf5, cl.nw5, cl.fz5, cl.wkL, cl.inOL, hlt, eP_at, c_ask, hst, hm, hq]
        rw [fidx_at (d := (0, 0)) hlt hq hn]; simp
    · simp +contextual (maxSteps := 5000000) only [go_sem, ↓reduceIte, hlt]
      rw [fidx_no (d := (0, 0)) (fun j hj => hn j (by omega))]
def c_ixP (q : Int × Int → Bool) (caps args : List D) : Prop × Out := match caps, args with
  | [], [.sl 2 rows, .fn g [] cs] => (rows = (rows.map dP).map eP ∧ rows.length < 1000000000 ∧ cleanL [.fn g [] cs] = true ∧ ∀ x ∈ rows.map dP, FC Try.prog g cs [.agg [.int .i64 x.1, .int .i64 x.2]] (.ret (.bool (q x))), .ret (.int .i64 (fidx q (rows.map dP) 0)))
  | _, _ => (False, .ret .any)
theorem st_ixP (q : Int × Int → Bool) : StC Try.prog 52 (c_ixP q) := by
  intro caps args; unfold c_ixP; split
  · rename_i rows g cs
    rintro ⟨h1, h2, h3, h4⟩
    have := fc_ixP g cs h3 q (rows.map dP) (by simpa using h2) h4
    rw [← h1] at this
    exact this
  · exact fun h => h.elim
theorem fidx_nn {α : Type} {q : α → Bool} : ∀ {l : List α} {k : Nat}, (decide (0 ≤ fidx q l k)) = l.any q
  | [], _ => rfl
  | x :: l, k => by
    have e : fidx q (x :: l) k = if q x = true then (k : Int) else fidx q l (k + 1) := rfl
    by_cases hq : q x = true
    · rw [if_pos hq] at e
      rw [List.any_cons, hq, Bool.true_or]; exact decide_eq_true (by rw [e]; omega)
    · rw [if_neg hq] at e
      rw [List.any_cons, show q x = false from by simpa using hq, Bool.false_or, ← fidx_nn (k := k + 1)]
      exact decide_eq_decide.2 (by rw [e])
theorem fc_cnP (g : Nat) (cs : List D) (hcs : cleanL [.fn g [] cs] = true) (q : Int × Int → Bool) (l : List (Int × Int)) (hl : l.length < 1000000000)
    (h : ∀ x ∈ l, FC Try.prog g cs [.agg [.int .i64 x.1, .int .i64 x.2]] (.ret (.bool (q x)))) :
    FC Try.prog 41 [] [.sl 2 (l.map eP), .fn g [] cs] (.ret (.bool (l.any q))) := by
  have cl := clrL_of (cl_fn hcs)
  have hst := st_ixP q
  refine fc_M (fn := Try.f41) (C := (tab [(52, c_ixP q)] [])) (rs := [4]) mixed (by kernel_rfl) (by kernel_rfl) rfl rfl (by kernel_rfl) (by intro ys h; cases h) ?_
  simp +contextual (maxSteps := 5000000) only [go_sem, ↓reduceIte, cl.cv6, cl.rf6, cl.nw6, cl.fz6, cl.cv5, cl.rf5, cl.nw5, cl.fz5, cl.wkL, cl.inOL, c_ixP, hst, dP_eP, fidx_nn]
  exact ⟨hl, hcs, h⟩
def c_cnP (q : Int × Int → Bool) (caps args : List D) : Prop × Out := match caps, args with
  | [], [.sl 2 rows, .fn g [] cs] => (rows = (rows.map dP).map eP ∧ rows.length < 1000000000 ∧ cleanL [.fn g [] cs] = true ∧ ∀ x ∈ rows.map dP, FC Try.prog g cs [.agg [.int .i64 x.1, .int .i64 x.2]] (.ret (.bool (q x))), .ret (.bool ((rows.map dP).any q)))
  | _, _ => (False, .ret .any)
theorem st_cnP (q : Int × Int → Bool) : StC Try.prog 41 (c_cnP q) := by
  intro caps args; unfold c_cnP; split
  · rename_i rows g cs
    rintro ⟨h1, h2, h3, h4⟩
    have := fc_cnP g cs h3 q (rows.map dP) (by simpa using h2) h4
    rw [← h1] at this
    exact this
  · exact fun h => h.elim
abbrev bTab (t : Tab) : D := .box [.sl 1 (t.1.map eS), .sl 1 (t.2.map eR)]
/-- the cells of two rows in a pair of columns are unlike -/
def oddF (a b : Tab) (i k : Int) (c : Int × Int) : Bool := !decide (cellF a i c.1 = cellF b k c.2)
theorem fc_odd (a b : Tab) (i k : Int) (c : Int × Int) : FC Try.prog 40 [bTab a, .box [.int .i64 i], bTab b, .box [.int .i64 k]] [.agg [.int .i64 c.1, .int .i64 c.2]] (.ret (.bool (oddF a b i k c))) := by
  refine fc_M (fn := Try.f40) (C := (tab [(24, c_cell)] [])) (rs := [6]) mixed (by kernel_rfl) (by kernel_rfl) rfl rfl (by kernel_rfl) (by intro ys h; cases h) ?_
  simp +contextual (maxSteps := 5000000) only [go_sem, ↓reduceIte, c_cell, st_cell, dS_eS, dR_eR, oddF]
/-- is a row free, and alike? -/
def askF (a b : Tab) (k : Int) (m : List (Int × Int)) (cols : List (Int × Int)) (i : Int) : Bool := decide (mlk m i = 0) && !cols.any (oddF a b i k)
theorem fc_ask1 (a b : Tab) (k : Int) (m : List (Int × Int)) (cols : List (Int × Int)) (i : Int) (hl : cols.length < 1000000000) : FC Try.prog 39 [bTab a, bTab b, .box [.int .i64 k], .box [.mp (m.map kI) (m.map vI)], .box [.sl 2 (cols.map eP)]] [.int .i64 i] (.ret (.bool (askF a b k m cols i))) := by
  have hst := st_cnP (oddF a b i k)
  refine fc_M (fn := Try.f39) (C := (tab [(41, c_cnP (oddF a b i k))] [])) (rs := [7]) mixed (by kernel_rfl) (by kernel_rfl) rfl rfl (by kernel_rfl) (by intro ys h; cases h) ?_
  unfold askF
  by_cases hm : mlk m i = 0
  · simp +contextual (maxSteps := 5000000) only [go_sem, ↓reduceIte, c_cnP, hst, dP_eP, hm]
    exact ⟨hl, rfl, fun x _ => fc_odd a b i k x⟩
  · simp +contextual (maxSteps := 5000000) only [go_sem, ↓reduceIte, c_cnP, hst, dP_eP, hm]
/-- a closure that asks of a number -/
def c_askI (cs : List D) (q : Int → Bool) (l : List Int) (caps args : List D) : Prop × Out :=
  match args with
  | [.int .i64 x] => (caps = cs ∧ x ∈ l, .ret (.bool (q x)))
  | _ => (False, .ret .any)
theorem st_askI {P : Program} {g : Nat} {cs : List D} {q : Int → Bool} {l : List Int} (h : ∀ x ∈ l, FC P g cs [.int .i64 x] (.ret (.bool (q x)))) : StC P g (c_askI cs q l) := by
  intro caps args
  unfold c_askI
  split
  · rintro ⟨rfl, hx⟩; exact h _ hx
  · exact fun h => h.elim
theorem fc_ixI (g : Nat) (cs : List D) (hcs : cleanL [.fn g [] cs] = true) (q : Int → Bool) (l : List Int) (hl : l.length < 1000000000)
    (h : ∀ x ∈ l, FC Try.prog g cs [.int .i64 x] (.ret (.bool (q x)))) :
    FC Try.prog 38 [] [.sl 1 (l.map eI), .fn g [] cs] (.ret (.int .i64 (fidx q l 0))) := by
  have cl := clrL_of (cl_fn hcs)
  have hst := st_askI h
  refine fc_M (fn := Try.f38) (C := (tab [(g, c_askI cs q l)] [])) (rs := [4]) mixed (by kernel_rfl) (by kernel_rfl) rfl rfl (by kernel_rfl) (by intro ys h; cases h) ?_
  simp +contextual (maxSteps := 5000000) only [go_sem, ↓reduceIte]
  intro _
  refine M_loopI (fun i : Nat => ⟨[(0, .sl 1 (l.map eI)), (1, .fn g [] cs), (7, .int .i64 l.length), (8, .int .i64 i)], []⟩) (fun i => l.length - i) (fun i => i ≤ l.length ∧ ∀ j, j < i → q (l.getD j 0) = false) 0 ?_ ?_
  · simp +contextual (maxSteps := 5000000) only [go_sem, ↓reduceIte, cl.cv6, cl.rf6, cl.nw6, cl.fz6, cl.cv5, cl.rf5, cl.nw5, cl.fz5, cl.wkL, cl.inOL]
    rfl
  · intro i hi
    obtain ⟨hi, hn⟩ := hi
    by_cases hlt : i < l.length
    · have hm := getD_mem (d := (0 : Int)) hlt
      cases hq : q (l.getD i 0)
      · simp +contextual (maxSteps := 5000000) only [go_sem, ↓reduceIte, cl.cv6, cl.rf6, cl.nw6, cl.fz6, cl.cv5, cl.rf5, cl.nw5, cl.fz5, cl.wkL, cl.inOL, hlt, eI_at, c_askI, hst, hm, hq]
        refine ⟨inR64 (by omega) (by omega), fun _ => ⟨i + 1, by simp, by omega, by omega, fun j hj => ?_⟩⟩
        rcases lt_cases hj with h | rfl
        · exact hn j h
        · exact hq
      · simp +contextual (maxSteps := 5000000) only [go_sem, ↓reduceIte, cl.cv6, cl.rf6, cl.nw6, cl.fz6, cl.cv5, cl.rf5, cl.nw5, cl.fz5, cl.wkL, cl.inOL, hlt, eI_at, c_askI, hst, hm, hq]
        rw [fidx_at (d := 0) hlt hq hn]; simp
    · simp +contextual (maxSteps := 5000000) only [go_sem, ↓reduceIte, hlt]
      rw [fidx_no (d := 0) (fun j hj => hn j (by omega))]
def c_ixD (caps args : List D) : Prop × Out := match caps, args with
  | [], [.sl 1 rows, .fn g [] [.box [.sl 1 ha, .sl 1 ra], .box [.sl 1 hb, .sl 1 rb], .box [.int .i64 k], .box [.mp ks ds], .box [.sl 2 cs]]] =>
    ((g = 39 ∧ rows = (rows.map dI).map eI ∧ rows.length < 1000000000 ∧ cs.length < 1000000000) ∧ (ha = (ha.map dS).map eS ∧ ra = (ra.map dR).map eR) ∧ (hb = (hb.map dS).map eS ∧ rb = (rb.map dR).map eR) ∧
      (ks = (dM ks ds).map kI ∧ ds = (dM ks ds).map vI) ∧ cs = (cs.map dP).map eP,
      .ret (.int .i64 (fidx (askF (ha.map dS, ra.map dR) (hb.map dS, rb.map dR) k (dM ks ds) (cs.map dP)) (rows.map dI) 0)))
  | _, _ => (False, .ret .any)
theorem st_ixD : StC Try.prog 38 c_ixD := by
  intro caps args; unfold c_ixD; split
  · rename_i rows g ha ra hb rb k ks ds cs
    rintro ⟨⟨rfl, h1, h2, h3⟩, ⟨h4, h5⟩, ⟨h6, h7⟩, ⟨h8, h9⟩, h10⟩
    have := fc_ixI 39 [bTab (ha.map dS, ra.map dR), bTab (hb.map dS, rb.map dR), .box [.int .i64 k], .box [.mp ((dM ks ds).map kI) ((dM ks ds).map vI)], .box [.sl 2 ((cs.map dP).map eP)]] rfl
      (askF (ha.map dS, ra.map dR) (hb.map dS, rb.map dR) k (dM ks ds) (cs.map dP)) (rows.map dI) (by simpa using h2) (fun x _ => fc_ask1 (ha.map dS, ra.map dR) (hb.map dS, rb.map dR) k (dM ks ds) (cs.map dP) x (by simpa using h3))
    simp only [bTab] at this
    rw [← h1, ← h4, ← h5, ← h6, ← h7, ← h8, ← h9, ← h10] at this
    exact this
  · exact fun h => h.elim
theorem ctM_app (l : List Int) (k : Int) : ctM (l ++ [k]) = mup (ctM l) k (mlk (ctM l) k + 1) := by
  unfold ctM; rw [List.foldl_append]; rfl
theorem ct_nn (x : Int) : ∀ l : List Int, 0 ≤ mlk (ctM l) x ∧ mlk (ctM l) x ≤ l.length ∧ (mlk (ctM l) x = 0 ↔ x ∉ l) := by
  have key : ∀ (r l : List Int), l = r.reverse → 0 ≤ mlk (ctM l) x ∧ mlk (ctM l) x ≤ l.length ∧ (mlk (ctM l) x = 0 ↔ x ∉ l) := by
    intro r
    induction r with
    | nil => rintro l rfl; simp [ctM, mlk]
    | cons k r ih =>
      rintro l rfl
      obtain ⟨i1, i2, i3⟩ := ih _ rfl
      rw [List.reverse_cons, ctM_app, mlk_mup]
      generalize r.reverse = l at *
      by_cases e : x = k
      · subst e
        rw [if_pos rfl]
        refine ⟨by omega, by simp; omega, ⟨fun h => by omega, fun h => by simp at h⟩⟩
      · rw [if_neg e]
        refine ⟨i1, by simp; omega, ?_⟩
        rw [i3]; simp [e]
  exact fun l => key l.reverse l (by simp)
end Go.Proofs.Ytojhjhnmfjdbeaa

set_option linter.unusedSimpArgs false
namespace Go.Proofs.Ytojhjhnmfjdbeaa
open Go.Tn
set_option maxHeartbeats 8000000
set_option maxRecDepth 100000
theorem fc_trios (p0 p1 p2 : List (Int × Int)) (n0 n1 n2 : Int) : FC Try.prog 26 [] [.sl 2 (p0.map eP), .sl 2 (p1.map eP), .sl 2 (p2.map eP), .int .i64 n0, .int .i64 n1, .int .i64 n2]
    (.ret (.fn 45 [] [pB p0, pB p1, pB p2, nB n0, nB n2, nB n1])) := by
  refine fc_M (fn := Try.f26) (C := (tab [] [])) (rs := [12]) mixed (by kernel_rfl) (by kernel_rfl) rfl rfl (by kernel_rfl) (by intro ys h; cases h) ?_
  simp +contextual (maxSteps := 5000000) only [go_sem, ↓reduceIte]
end Go.Proofs.Ytojhjhnmfjdbeaa

set_option linter.unusedSimpArgs false
namespace Go.Proofs.Ytojhjhnmfjdbeaa
open Go.Tn
set_option maxHeartbeats 8000000
set_option maxRecDepth 100000
def c_Check (caps args : List D) : Prop × Out := match caps, args with | [], [.sl 2 rows, .int .i64 na, .int .i64 nb] => (rows = (rows.map dP).map eP ∧ na < 1000000000 ∧ nb < 1000000000 ∧ rows.length < 1000000000, .ret (.int .i64 (chk (rows.map dP) na nb))) | _, _ => (False, .ret .any)
theorem st_Check : StC Try.prog 25 c_Check := by
  intro caps args; unfold c_Check; split
  · rename_i rows na nb
    intro h
    obtain ⟨h1, h2, h3, h4⟩ := h
    have := fc_Check (rows.map dP) na nb h2 h3 (by simpa using h4)
    rw [← h1] at this
    exact this
  · exact fun h => h.elim
def c_trios (caps args : List D) : Prop × Out := match caps, args with | [], [.sl 2 r0, .sl 2 r1, .sl 2 r2, .int .i64 n0, .int .i64 n1, .int .i64 n2] => (r0 = (r0.map dP).map eP ∧ r1 = (r1.map dP).map eP ∧ r2 = (r2.map dP).map eP, .ret (.fn 45 [] [.box [.sl 2 r0], .box [.sl 2 r1], .box [.sl 2 r2], nB n0, nB n2, nB n1])) | _, _ => (False, .ret .any)
theorem st_trios : StC Try.prog 26 c_trios := by
  intro caps args; unfold c_trios; split
  · rename_i r0 r1 r2 n0 n1 n2
    intro h
    obtain ⟨h1, h2, h3⟩ := h
    have := fc_trios (r0.map dP) (r1.map dP) (r2.map dP) n0 n1 n2
    simp only [pB, ← h1, ← h2, ← h3] at this
    exact this
  · exact fun h => h.elim
def bd (ps : List (Int × Int)) : Prop := ∀ p ∈ ps, -1000000000 ≤ p.2 ∧ p.2 ≤ 1000000000
def c_trios1 (caps args : List D) : Prop × Out := match caps, args with
  | [.box [.sl 2 r0], .box [.sl 2 r1], .box [.sl 2 r2], .box [.int .i64 n0], .box [.int .i64 n2], .box [.int .i64 n1]], [] => ((r0 = (r0.map dP).map eP ∧ r1 = (r1.map dP).map eP ∧ r2 = (r2.map dP).map eP) ∧ (n0 < 1000000000 ∧ n1 < 1000000000 ∧ n2 < 1000000000) ∧ (bd (r0.map dP) ∧ bd (r1.map dP) ∧ bd (r2.map dP)) ∧ r0.length < 1000000000 ∧ r1.length < 1000000000, .seq ((trL (r0.map dP) (r1.map dP) (r2.map dP) n0 n1 n2).map eY))
  | _, _ => (False, .ret .any)
theorem st_trios1 : StC Try.prog 45 c_trios1 := by
  intro caps args; unfold c_trios1; split
  · rename_i r0 r1 r2 n0 n2 n1
    intro h
    obtain ⟨⟨h1, h2, h3⟩, ⟨g0, g1, g2⟩, ⟨b0, b1, b2⟩, l0, l1⟩ := h
    have := fc_trios1 (r0.map dP) (r1.map dP) (r2.map dP) n0 n1 n2 g0 g1 g2 b0 b1 b2 (by simpa using l0) (by simpa using l1)
    simp only [pB, ← h1, ← h2, ← h3] at this
    exact this
  · exact fun h => h.elim
end Go.Proofs.Ytojhjhnmfjdbeaa

set_option linter.unusedSimpArgs false
namespace Go.Proofs.Ytojhjhnmfjdbeaa
open Go.Tn
set_option maxHeartbeats 8000000
set_option maxRecDepth 100000
theorem chk_bd {ps : List (Int × Int)} {na nb : Int} (h : chk ps na nb = 0) (hb : nb < 1000000000) : bd ps := by
  unfold chk at h
  split at h
  · omega
  · split at h
    · omega
    · rename_i hn
      intro p hp
      have := Classical.byContradiction fun hc => hn ⟨p, hp, hc⟩
      unfold inB at this
      omega
def trOut (p0 p1 p2 : List (Int × Int)) (n0 n1 n2 : Int) : D :=
  if chk p0 n0 n1 ≠ 0 then .tup [.nil, .int .i64 (chk p0 n0 n1)] else if chk p1 n0 n2 ≠ 0 then .tup [.nil, .int .i64 (chk p1 n0 n2)] else if chk p2 n1 n2 ≠ 0 then .tup [.nil, .int .i64 (chk p2 n1 n2)]
  else .tup [.sl 3 ((trL p0 p1 p2 n0 n1 n2).map eT), .int .i64 0]
theorem fc_Trios (p0 p1 p2 : List (Int × Int)) (n0 n1 n2 : Int) (h0 : n0 < 1000000000) (h1 : n1 < 1000000000) (h2 : n2 < 1000000000) (l0 : p0.length < 1000000000) (l1 : p1.length < 1000000000) (l2 : p2.length < 1000000000) :
    FC Try.prog 11 [] [.sl 2 (p0.map eP), .sl 2 (p1.map eP), .sl 2 (p2.map eP), .int .i64 n0, .int .i64 n1, .int .i64 n2] (.ret (trOut p0 p1 p2 n0 n1 n2)) := by
  refine fc_M (fn := Try.f11) (C := (tab [(25, c_Check), (26, c_trios), (45, c_trios1)] [])) (rs := [12, 13]) mixed (by kernel_rfl) (by kernel_rfl) rfl rfl (by kernel_rfl) (by intro ys h; cases h) ?_
  simp +contextual (maxSteps := 5000000) only [go_sem, ↓reduceIte, c_Check, st_Check, dP_eP]
  refine ⟨⟨h0, h1, l0⟩, ⟨h0, h2, l1⟩, ⟨h1, h2, l2⟩, ?_⟩
  unfold trOut
  generalize hc0 : chk p0 n0 n1 = c0
  generalize hc1 : chk p1 n0 n2 = c1
  generalize hc2 : chk p2 n1 n2 = c2
  obtain ⟨cs, hcs⟩ : ∃ cs, cs = [c0, c1, c2] := ⟨_, rfl⟩
  have hl : cs.length = 3 := by rw [hcs]; rfl
  refine M_loopI (fun i : Nat => ⟨[(0, .sl 2 (p0.map eP)), (1, .sl 2 (p1.map eP)), (2, .sl 2 (p2.map eP)), (3, .int .i64 n0), (4, .int .i64 n1), (5, .int .i64 n2), (30, .vec 30 3), (31, .int .i64 (3 : Nat)), (32, .int .i64 i)], [(30, .vec 28 1 (cs.map eI) 0)]⟩)
    (fun i => 3 - i) (fun i => i ≤ 3 ∧ ∀ j, j < i → cs.getD j 0 = 0) 0 ?_ ?_
  · simp +contextual (maxSteps := 5000000) only [go_sem, ↓reduceIte, eI, hcs]
    rfl
  · intro i hi
    by_cases hlt : i < 3
    · have hat := eI_at cs i (by omega)
      simp +contextual (maxSteps := 5000000) only [go_sem, ↓reduceIte, hat, hlt, hl]
      obtain ⟨_, hz⟩ := hi
      split
      · rename_i hne
        have hcase : i = 0 ∨ i = 1 ∨ i = 2 := by omega
        rcases hcase with rfl | rfl | rfl
        · simp only [hcs, List.getD_cons_zero] at hne ⊢
          rw [if_pos hne]; simp [wk, wkL]
        · have z0 := hz 0 (by omega)
          simp only [hcs, List.getD_cons_zero, List.getD_cons_succ] at hne z0 ⊢
          rw [if_neg (fun h => h z0), if_pos hne]; simp [wk, wkL]
        · have z0 := hz 0 (by omega)
          have z1 := hz 1 (by omega)
          simp only [hcs, List.getD_cons_zero, List.getD_cons_succ] at hne z0 z1 ⊢
          rw [if_neg (fun h => h z0), if_neg (fun h => h z1), if_pos hne]; simp [wk, wkL]
      · rename_i hze
        refine ⟨inR64 (by omega) (by omega), fun _ => ⟨i + 1, by simp, by omega, by omega, fun j hj => ?_⟩⟩
        rcases Nat.lt_succ_iff_lt_or_eq.1 hj with h | rfl
        · exact hz j h
        · exact Classical.not_not.1 hze
    · simp +contextual (maxSteps := 5000000) only [go_sem, ↓reduceIte, hlt, hl, c_trios, st_trios, dP_eP]
      obtain ⟨_, hz⟩ := hi
      have z0 := hz 0 (by omega)
      have z1 := hz 1 (by omega)
      have z2 := hz 2 (by omega)
      simp only [hcs, List.getD_cons_zero, List.getD_cons_succ] at z0 z1 z2
      rw [if_neg (fun h => h z0), if_neg (fun h => h z1), if_neg (fun h => h z2)]
      refine M_range (f := 45) (caps := [pB p0, pB p1, pB p2, nB n0, nB n2, nB n1]) (ys := (trL p0 p1 p2 n0 n1 n2).map eY) (pre := (c_trios1 [pB p0, pB p1, pB p2, nB n0, nB n2, nB n1] []).1) ?_ ?_ ?_ (σ := Unit) [(16, .loc 16 0)] (fun j _ => [(16, .blk [.vec 51 j] false), (51, .vec 52 3 (((trL p0 p1 p2 n0 n1 n2).take j).map eT) 0)]) (fun j _ => j ≤ (trL p0 p1 p2 n0 n1 n2).length) () ?_ ?_ ?_ ?_
      · simp +contextual (maxSteps := 5000000) only [go_sem, ↓reduceIte]
      · simp +contextual (maxSteps := 5000000) only [go_sem, ↓reduceIte, c_trios1, dP_eP]
      · simp +contextual (maxSteps := 5000000) only [go_sem, ↓reduceIte, c_trios1, st_trios1, dP_eP]
        exact ⟨⟨h0, h1, h2⟩, ⟨chk_bd (hc0.trans z0) h1, chk_bd (hc1.trans z1) h2, chk_bd (hc2.trans z2) h2⟩, l0, l1⟩
      · simp +contextual (maxSteps := 5000000) only [go_sem, ↓reduceIte]
        intro y hy
        obtain ⟨x, _, rfl⟩ := List.mem_map.1 hy
        rfl
      · simp +contextual (maxSteps := 5000000) only [go_sem, ↓reduceIte]
      · intro j _ hj hlt2
        have hlt3 : j < (trL p0 p1 p2 n0 n1 n2).length := by simpa using hlt2
        have hY : ((trL p0 p1 p2 n0 n1 n2).map eY).getD j [] = [.agg [.int .i64 ((trL p0 p1 p2 n0 n1 n2).getD j (0, 0, 0)).1, .int .i64 ((trL p0 p1 p2 n0 n1 n2).getD j (0, 0, 0)).2.1, .int .i64 ((trL p0 p1 p2 n0 n1 n2).getD j (0, 0, 0)).2.2]] := at_of eY (0, 0, 0) _ _ hlt3
        rw [hY]
        simp +contextual (maxSteps := 5000000) only [go_sem, ↓reduceIte, putPs]
        have e1 := @tr_len p0 p1 p2 n0 n1 n2
        have e2 := rsB_len p0 n1.toNat
        have e3 := rsB_len p1 n2.toNat
        have e4 := rsA_len (byF p2) (rsB p0 n1.toNat) (rsB p1 n2.toNat) (rsB p0 n1.toNat).length
        refine ⟨⟨by omega, by omega⟩, fun _ => ⟨(), ?_, by omega⟩⟩
        rw [List.take_add_one, List.getElem?_eq_getElem hlt3, List.getD_eq_getElem?_getD, List.getElem?_eq_getElem hlt3, List.map_append]; rfl
      · intro _ _
        simp +contextual (maxSteps := 5000000) only [go_sem, ↓reduceIte]
        rw [List.take_length]; exact ⟨by omega, rfl⟩
end Go.Proofs.Ytojhjhnmfjdbeaa

set_option linter.unusedSimpArgs false
namespace Go.Proofs.Ytojhjhnmfjdbeaa
open Go.Tn
set_option maxHeartbeats 8000000
set_option maxRecDepth 100000

/-! the plain laws: the maps' counts, and what is the same in three -/
theorem rev_ind {α : Type} {p : List α → Prop} (h0 : p []) (h1 : ∀ l k, p l → p (l ++ [k])) : ∀ l, p l := by
  have key : ∀ r : List α, p r.reverse := fun r => by
    induction r with
    | nil => exact h0
    | cons k r ih => rw [List.reverse_cons]; exact h1 _ _ ih
  intro l
  have := key l.reverse
  rwa [List.reverse_reverse] at this
theorem mup_keys (k v : Int) : ∀ m : List (Int × Int), (mup m k v).map (·.1) = if k ∈ m.map (·.1) then m.map (·.1) else m.map (·.1) ++ [k]
  | [] => by simp [mup]
  | x :: r => by
    have ih := mup_keys k v r
    simp only [mup]
    by_cases e : x.1 = k
    · subst e; simp
    · rw [if_neg e, List.map_cons, ih]
      by_cases h : k ∈ r.map (·.1)
      · rw [if_pos h, if_pos (by rw [List.map_cons]; exact List.mem_cons_of_mem _ h)]; rfl
      · rw [if_neg h, if_neg (by rw [List.map_cons, List.mem_cons]; exact fun h' => h'.elim (fun h' => e h'.symm) h)]; rfl
theorem ct_keys (l : List Int) : (∀ x, x ∈ (ctM l).map (·.1) ↔ x ∈ l) ∧ (ctM l).length ≤ l.length ∧ ((ctM l).length = l.length ↔ l.Nodup) := by
  refine rev_ind (p := fun l => (∀ x, x ∈ (ctM l).map (·.1) ↔ x ∈ l) ∧ (ctM l).length ≤ l.length ∧ ((ctM l).length = l.length ↔ l.Nodup)) ?_ ?_ l
  · simp [ctM]
  · rintro l k ⟨h1, h2, h3⟩
    rw [ctM_app]
    have hk := mup_keys k (mlk (ctM l) k + 1) (ctM l)
    have hlen : (mup (ctM l) k (mlk (ctM l) k + 1)).length = (ctM l).length + if k ∈ l then 0 else 1 := by
      have := congrArg List.length hk
      rw [List.length_map] at this
      rw [this]
      by_cases h : k ∈ l
      · rw [if_pos ((h1 k).2 h), if_pos h, List.length_map]; rfl
      · rw [if_neg (fun h' => h ((h1 k).1 h')), if_neg h, List.length_append, List.length_map]; rfl
    refine ⟨fun x => ?_, ?_, ?_⟩
    · rw [hk]
      by_cases h : k ∈ l
      · rw [if_pos ((h1 k).2 h), h1, List.mem_append, List.mem_singleton]
        exact ⟨.inl, fun h' => h'.elim id (fun e => e ▸ h)⟩
      · rw [if_neg (fun h' => h ((h1 k).1 h')), List.mem_append, List.mem_append, h1]
    · rw [hlen, List.length_append, List.length_singleton]; split <;> omega
    · rw [hlen, List.length_append, List.length_singleton, List.nodup_append]
      by_cases h : k ∈ l
      · rw [if_pos h]
        refine ⟨fun e => by omega, fun ⟨_, _, h'⟩ => absurd rfl (h' k h k (by simp))⟩
      · rw [if_neg h]
        refine ⟨fun e => ⟨h3.1 (by omega), by simp, fun a ha b hb => ?_⟩, fun ⟨h', _⟩ => by rw [h3.2 h']⟩
        obtain rfl : b = k := by simpa using hb
        exact fun e => h (e ▸ ha)
theorem nodup_at {l : List Int} : ¬ l.Nodup ↔ ∃ i, i < l.length ∧ ∃ j, j < i ∧ l.getD j 0 = l.getD i 0 := by
  unfold List.Nodup
  rw [List.pairwise_iff_getElem]
  constructor
  · intro h
    refine Classical.byContradiction fun hc => h fun j i hj hi hji e => hc ⟨i, hi, j, hji, ?_⟩
    rw [List.getD_eq_getElem?_getD, List.getD_eq_getElem?_getD, List.getElem?_eq_getElem hi, List.getElem?_eq_getElem hj, e]
  · rintro ⟨i, hi, j, hji, e⟩ h
    rw [List.getD_eq_getElem?_getD, List.getD_eq_getElem?_getD, List.getElem?_eq_getElem hi, List.getElem?_eq_getElem (by omega)] at e
    exact h j i (by omega) hi hji e
theorem getD_map1 (ps : List (Int × Int)) (i : Nat) : (ps.map (·.1)).getD i 0 = (ps.getD i (0, 0)).1 ∧ (ps.map (·.2)).getD i 0 = (ps.getD i (0, 0)).2 := by
  simp only [List.getD_eq_getElem?_getD, List.getElem?_map]
  cases ps[i]? <;> exact ⟨rfl, rfl⟩
theorem dup_iff (ps : List (Int × Int)) : dupB ps ↔ ¬ ((ps.map (·.1)).Nodup ∧ (ps.map (·.2)).Nodup) := by
  rw [Classical.not_and_iff_not_or_not, nodup_at, nodup_at]
  unfold dupB
  simp only [List.length_map]
  constructor
  · rintro ⟨i, hi, j, hj, h | h⟩
    · exact .inl ⟨i, hi, j, hj, by rw [(getD_map1 ps j).1, (getD_map1 ps i).1, h]⟩
    · exact .inr ⟨i, hi, j, hj, by rw [(getD_map1 ps j).2, (getD_map1 ps i).2, h]⟩
  · rintro (⟨i, hi, j, hj, h⟩ | ⟨i, hi, j, hj, h⟩)
    · exact ⟨i, hi, j, hj, .inl (by rwa [(getD_map1 ps j).1, (getD_map1 ps i).1] at h)⟩
    · exact ⟨i, hi, j, hj, .inr (by rwa [(getD_map1 ps j).2, (getD_map1 ps i).2] at h)⟩
theorem chk_eq (ps : List (Int × Int)) (na nb : Int) : chk ps na nb = rchk ps na nb := by
  unfold chk rchk
  have h : ((ctM (ps.map (·.1))).length < ps.length ∨ (ctM (ps.map (·.2))).length < ps.length) ↔ dupB ps := by
    rw [dup_iff]
    have h1 := ct_keys (ps.map (·.1))
    have h2 := ct_keys (ps.map (·.2))
    rw [List.length_map] at h1 h2
    rw [← h1.2.2, ← h2.2.2]
    have := h1.2.1
    have := h2.2.1
    omega
  by_cases c1 : na < 0 ∨ nb < 0
  · rw [if_pos c1, if_pos c1]
  · rw [if_neg c1, if_neg c1]
    by_cases c2 : ∃ p, p ∈ ps ∧ ¬ inB na nb p
    · rw [if_pos c2, if_pos c2]
    · rw [if_neg c2, if_neg c2]
      by_cases c3 : dupB ps
      · rw [if_pos (h.2 c3), if_pos c3]
      · rw [if_neg (fun h' => c3 (h.1 h')), if_neg c3]
/-- what a good list of pairs is -/
structure Good (ps : List (Int × Int)) (na nb : Int) : Prop where
  a0 : 0 ≤ na
  b0 : 0 ≤ nb
  inn : ∀ p ∈ ps, inB na nb p
  na : (ps.map (·.1)).Nodup
  nb : (ps.map (·.2)).Nodup
theorem good_of {ps : List (Int × Int)} {na nb : Int} (h : chk ps na nb = 0) : Good ps na nb := by
  rw [chk_eq] at h
  unfold rchk at h
  by_cases c1 : na < 0 ∨ nb < 0
  · rw [if_pos c1] at h; omega
  · rw [if_neg c1] at h
    by_cases c2 : ∃ p, p ∈ ps ∧ ¬ inB na nb p
    · rw [if_pos c2] at h; omega
    · rw [if_neg c2] at h
      by_cases c3 : dupB ps
      · rw [if_pos c3] at h; omega
      · rw [dup_iff, Classical.not_not] at c3
        exact ⟨by omega, by omega, fun p hp => Classical.byContradiction fun hn => c2 ⟨p, hp, hn⟩, c3.1, c3.2⟩
theorem ofF_app (ps : List (Int × Int)) (p : Int × Int) (k : Int) : ofF (ps ++ [p]) k = if k ∈ ps.map (·.1) then ofF ps k else if p.1 = k then p.2 else -1 := by
  induction ps with
  | nil => simp [ofF]
  | cons q r ih =>
    simp only [List.cons_append, ofF, ih, List.map_cons, List.mem_cons]
    by_cases e : q.1 = k
    · rw [if_pos e, if_pos (.inl e.symm), if_pos e]
    · rw [if_neg e, if_neg e]
      by_cases h : k ∈ r.map (·.1)
      · rw [if_pos h, if_pos (.inr h)]
      · rw [if_neg h, if_neg (show ¬ (k = q.1 ∨ k ∈ r.map (·.1)) from fun h' => h'.elim (fun h' => e h'.symm) h)]
theorem ofF_none {ps : List (Int × Int)} {k : Int} (h : k ∉ ps.map (·.1)) : ofF ps k = -1 := by
  induction ps with
  | nil => rfl
  | cons q r ih =>
    rw [List.map_cons, List.mem_cons] at h
    simp only [ofF]
    rw [if_neg (fun e => h (.inl e.symm)), ih (fun h' => h (.inr h'))]
theorem ofF_mem {ps : List (Int × Int)} {k : Int} (h : k ∈ ps.map (·.1)) : (k, ofF ps k) ∈ ps := by
  induction ps with
  | nil => simp at h
  | cons q r ih =>
    simp only [ofF]
    by_cases e : q.1 = k
    · rw [if_pos e, ← e]; exact List.mem_cons_self ..
    · rw [if_neg e]
      refine List.mem_cons_of_mem _ (ih ?_)
      rw [List.map_cons, List.mem_cons] at h
      exact h.resolve_left (fun e' => e e'.symm)
theorem byF_eq : ∀ ps : List (Int × Int), (ps.map (·.1)).Nodup → ∀ k, byF ps k = ofF ps k := by
  refine rev_ind ?_ ?_
  · intro _ k; rfl
  · intro l p ih hn k
    rw [List.map_append, List.nodup_append] at hn
    have hb : byM (l ++ [p]) = mup (byM l) p.1 (p.2 + 1) := by unfold byM; rw [List.foldl_append]; rfl
    unfold byF at ih ⊢
    rw [hb, mlk_mup, ofF_app]
    by_cases e : k = p.1
    · subst e
      rw [if_pos rfl, if_neg (fun h => hn.2.2 _ h p.1 (by simp) rfl), if_pos rfl]; omega
    · rw [if_neg e, ih hn.1 k, if_neg (show ¬ p.1 = k from fun e' => e e'.symm)]
      by_cases h : k ∈ l.map (·.1)
      · rw [if_pos h]
      · rw [if_neg h, ofF_none h]
theorem rsB_eq (ps : List (Int × Int)) (n : Nat) : rsB ps n = rrB ps n := by
  unfold rsB rrB
  congr 1
  apply List.filter_congr
  intro i _
  have := (cnt_nn i ps ps.length (Nat.le_refl _)).2.2
  rw [List.take_length] at this
  by_cases h : mlk (cntM ps) i = 0
  · rw [decide_eq_true h]
    have h' := this.1 h
    have : hasB ps i = false := List.any_eq_false.2 fun p hp => by simpa using h' p hp
    rw [this]; rfl
  · rw [decide_eq_false h]
    have : hasB ps i = true := by
      refine Classical.byContradiction fun hc => h (this.2 fun p hp e => hc ?_)
      exact List.any_eq_true.2 ⟨p, hp, by simpa using e⟩
    rw [this]; rfl
theorem rrB_mem {ps : List (Int × Int)} {n : Nat} {x : Int} : x ∈ rrB ps n ↔ (0 ≤ x ∧ x < n) ∧ x ∉ ps.map (·.2) := by
  unfold rrB
  rw [List.mem_map]
  constructor
  · rintro ⟨i, hi, rfl⟩
    have := List.mem_filter.1 hi
    refine ⟨⟨by omega, by have := List.mem_range.1 this.1; omega⟩, fun h => ?_⟩
    obtain ⟨p, hp, e⟩ := List.mem_map.1 h
    have h2 : hasB ps i = false := by simpa using this.2
    exact List.any_eq_false.1 h2 p hp (by simpa using e)
  · rintro ⟨⟨h1, h2⟩, h3⟩
    refine ⟨x.toNat, List.mem_filter.2 ⟨List.mem_range.2 (by omega), ?_⟩, by omega⟩
    have : hasB ps x.toNat = false := List.any_eq_false.2 fun p hp e => h3 (List.mem_map.2 ⟨p, hp, (show p.2 = x.toNat by simpa using e).trans (by omega)⟩)
    show (!hasB ps x.toNat) = true
    rw [this]; rfl
theorem rrB_nodup (ps : List (Int × Int)) (n : Nat) : (rrB ps n).Nodup := by
  unfold rrB
  refine List.Pairwise.map _ (fun a b h e => h (by omega)) ((List.nodup_range (n := n)).filter _)
theorem idx_mem {x : Int} : ∀ {l : List Int} {k : Nat}, (0 ≤ idxI x l k ↔ x ∈ l) ∧ (x ∈ l → (k : Int) ≤ idxI x l k)
  | [], k => by simp [idxI]
  | y :: l, k => by
    obtain ⟨h1, h2⟩ := @idx_mem x l (k + 1)
    simp only [idxI, List.mem_cons]
    by_cases e : y = x
    · subst e; simp
    · rw [if_neg e, h1]
      refine ⟨⟨.inr, fun h => h.resolve_left (fun e' => e e'.symm)⟩, fun h => ?_⟩
      have := h2 (h.resolve_left (fun e' => e e'.symm))
      omega
theorem del_filter {x : Int} : ∀ {l : List Int} {k : Nat}, l.Nodup → x ∈ l → l.getD (idxI x l k - k).toNat 0 = x ∧ delR l (idxI x l k - k).toNat (idxI x l k + 1 - k).toNat = l.filter (fun y => !decide (y = x))
  | [], _, _, h => by simp at h
  | y :: l, k, hn, h => by
    rw [List.nodup_cons] at hn
    simp only [idxI]
    by_cases e : y = x
    · subst e
      rw [if_pos rfl, show ((k : Int) - k).toNat = 0 by omega, show ((k : Int) + 1 - k).toNat = 1 by omega]
      refine ⟨rfl, ?_⟩
      simp only [delR, List.take_zero, List.drop_succ_cons, List.drop_zero, List.nil_append, List.filter_cons, decide_true, Bool.not_true, Bool.false_eq_true, if_false]
      exact (List.filter_eq_self.2 fun z hz => by simp only [Bool.not_eq_true', decide_eq_false_iff_not]; exact fun e => hn.1 (e ▸ hz)).symm
    · have hm : x ∈ l := (List.mem_cons.1 h).resolve_left (fun e' => e e'.symm)
      obtain ⟨h1, h2⟩ := del_filter (k := k + 1) hn.2 hm
      have hge := (@idx_mem x l (k + 1)).2 hm
      rw [if_neg e]
      have e1 : (idxI x l (k + 1) - k).toNat = (idxI x l (k + 1) - (k + 1 : Nat)).toNat + 1 := by omega
      have e2 : (idxI x l (k + 1) + 1 - k).toNat = (idxI x l (k + 1) + 1 - (k + 1 : Nat)).toNat + 1 := by omega
      rw [e1, e2]
      refine ⟨by rw [List.getD_cons_succ]; exact h1, ?_⟩
      unfold delR at h2 ⊢
      rw [List.take_succ_cons, List.drop_succ_cons, List.cons_append, h2, List.filter_cons, decide_eq_false e]; rfl
theorem nx_filter {f : Int → Int} {r : List Int} {k : Int} (hn : r.Nodup) :
    nxR f r k = (if f k ∈ r then r.filter (fun y => !decide (y = f k)) else r) ∧ itR f r k = (-1, k, if f k ∈ r then f k else -1) := by
  have h1 := (@idx_mem (f k) r 0).1
  unfold nxR itR
  by_cases h : f k ∈ r
  · have h2 := del_filter (k := 0) hn h
    rw [if_pos (h1.2 h), if_pos (h1.2 h), if_pos h, if_pos h]
    simp only [Int.natCast_zero, Int.sub_zero] at h2
    exact ⟨h2.2, by rw [h2.1]⟩
  · rw [if_neg (fun h' => h (h1.1 h')), if_neg (fun h' => h (h1.1 h')), if_neg h, if_neg h]
    exact ⟨rfl, rfl⟩
theorem of_inj {ps : List (Int × Int)} {na nb : Int} (hg : Good ps na nb) {x y : Int} (h : 0 ≤ ofF ps x) (e : ofF ps x = ofF ps y) : x = y := by
  have hx : x ∈ ps.map (·.1) := Classical.byContradiction fun hc => by rw [ofF_none hc] at h; omega
  have hy : y ∈ ps.map (·.1) := Classical.byContradiction fun hc => by rw [e, ofF_none hc] at h; omega
  have h1 := ofF_mem hx
  have h2 := ofF_mem hy
  rw [← e] at h2
  obtain ⟨i, hi, e1⟩ := List.getElem_of_mem h1
  obtain ⟨j, hj, e2⟩ := List.getElem_of_mem h2
  have hij : i = j := by
    have hp := List.pairwise_iff_getElem.1 hg.nb
    rcases Nat.lt_trichotomy i j with h | h | h
    · exact absurd (by rw [List.getElem_map, List.getElem_map, e1, e2]) (hp i j (by rw [List.length_map]; exact hi) (by rw [List.length_map]; exact hj) h)
    · exact h
    · exact absurd (by rw [List.getElem_map, List.getElem_map, e1, e2]) (hp j i (by rw [List.length_map]; exact hj) (by rw [List.length_map]; exact hi) h)
  subst hij
  rw [e1] at e2
  exact (Prod.mk.inj e2).1
theorem rsA_eq {p2 : List (Int × Int)} {n1 n2 : Int} (hg : Good p2 n1 n2) {la lb : List Int} (hl : la.Nodup) (hb : lb.Nodup) (h0 : ∀ x ∈ lb, 0 ≤ x) :
    ∀ j, j ≤ la.length → rsA (ofF p2) la lb j = lb.filter (fun b => !decide (b ∈ (la.take j).map (rbF p2 lb)))
  | 0, _ => by simp only [rsA, List.take_zero, List.map_nil]; exact (List.filter_eq_self.2 fun _ _ => by simp).symm
  | j + 1, h => by
    have ih := rsA_eq hg hl hb h0 j (by omega)
    simp only [rsA]
    have hn : (rsA (ofF p2) la lb j).Nodup := by rw [ih]; exact hb.filter _
    rw [(nx_filter hn).1]
    have ht : (la.take (j + 1)).map (rbF p2 lb) = (la.take j).map (rbF p2 lb) ++ [rbF p2 lb (la.getD j 0)] := by
      rw [List.take_add_one, List.getElem?_eq_getElem (by omega), List.map_append, List.getD_eq_getElem?_getD, List.getElem?_eq_getElem (by omega)]; rfl
    rw [ht]
    have hsplit : lb.filter (fun b => !decide (b ∈ (la.take j).map (rbF p2 lb) ++ [rbF p2 lb (la.getD j 0)])) = (rsA (ofF p2) la lb j).filter (fun y => !decide (y = rbF p2 lb (la.getD j 0))) := by
      rw [ih, List.filter_filter]
      apply List.filter_congr
      intro b _
      simp only [List.mem_append, List.mem_singleton, Bool.decide_or, Bool.not_or]
      exact Bool.and_comm _ _
    rw [hsplit]
    by_cases h : ofF p2 (la.getD j 0) ∈ rsA (ofF p2) la lb j
    · have : rbF p2 lb (la.getD j 0) = ofF p2 (la.getD j 0) := by
        unfold rbF; rw [if_pos]; rw [ih] at h; exact (List.mem_filter.1 h).1
      rw [if_pos h, this]
    · rw [if_neg h]
      refine (List.filter_eq_self.2 fun z hz => ?_).symm
      simp only [Bool.not_eq_true', decide_eq_false_iff_not]
      intro e
      unfold rbF at e
      split at e
      · exact h (e ▸ hz)
      · rw [ih] at hz
        have := h0 z (List.mem_filter.1 hz).1
        omega
theorem tr_eq {p0 p1 p2 : List (Int × Int)} {n0 n1 n2 : Int} (g0 : Good p0 n0 n1) (g1 : Good p1 n0 n2) (g2 : Good p2 n1 n2) : trL p0 p1 p2 n0 n1 n2 = rtL p0 p1 p2 n0 n1 n2 := by
  unfold trL rtL
  have hf : byF p2 = ofF p2 := funext fun k => byF_eq p2 g2.na k
  rw [rsB_eq, rsB_eq, hf]
  have hb0 : ∀ x ∈ rrB p1 n2.toNat, 0 ≤ x := fun x hx => (rrB_mem.1 hx).1.1
  have hA : trA p0 p1 n0 = rtA p0 p1 n0.toNat := by
    unfold trA rtA
    refine List.map_congr_left fun i _ => ?_
    rw [byF_eq p0 g0.na, byF_eq p1 g1.na]
  have hl := rrB_nodup p0 n1.toNat
  have hb := rrB_nodup p1 n2.toNat
  generalize rrB p0 n1.toNat = la at *
  generalize rrB p1 n2.toNat = lb at *
  have hrs := rsA_eq g2 hl hb hb0
  congr 1
  · rw [hA]
    congr 1
    unfold trB rtB
    apply List.ext_getElem (by simp)
    intro j h1 h2
    have hj : j < la.length := by simpa using h2
    simp only [List.getElem_map, List.getElem_range]
    have hn : (rsA (ofF p2) la lb j).Nodup := by rw [hrs j (by omega)]; exact hb.filter _
    rw [(nx_filter hn).2]
    have e : la.getD j 0 = la[j] := by rw [List.getD_eq_getElem?_getD, List.getElem?_eq_getElem hj]; rfl
    rw [e]
    congr 2
    unfold rbF
    have hiff : ofF p2 la[j] ∈ rsA (ofF p2) la lb j ↔ ofF p2 la[j] ∈ lb := by
      rw [hrs j (by omega), List.mem_filter]
      refine ⟨And.left, fun h => ⟨h, ?_⟩⟩
      simp only [Bool.not_eq_true', decide_eq_false_iff_not]
      intro hm
      obtain ⟨k, hk, ek⟩ := List.mem_map.1 hm
      have hpos := hb0 _ h
      have ek2 : ofF p2 k = ofF p2 la[j] := by
        unfold rbF at ek
        split at ek
        · exact ek
        · omega
      have := of_inj g2 (by omega) ek2
      subst this
      obtain ⟨i, hi, ei⟩ := List.getElem_of_mem hk
      have hi' : i < j ∧ i < la.length := by simp at hi; omega
      rw [List.getElem_take] at ei
      exact List.pairwise_iff_getElem.1 hl i j hi'.2 hj hi'.1 ei
    by_cases c : ofF p2 la[j] ∈ lb
    · rw [if_pos c, if_pos (hiff.2 c)]
    · rw [if_neg c, if_neg (fun h => c (hiff.1 h))]
  · unfold trC rtC
    rw [hrs la.length (Nat.le_refl _), List.take_length]
theorem trOut_eq (p0 p1 p2 : List (Int × Int)) (n0 n1 n2 : Int) : trOut p0 p1 p2 n0 n1 n2 = rtOut p0 p1 p2 n0 n1 n2 := by
  unfold trOut rtOut
  rw [← chk_eq, ← chk_eq, ← chk_eq]
  by_cases c0 : chk p0 n0 n1 = 0
  · by_cases c1 : chk p1 n0 n2 = 0
    · by_cases c2 : chk p2 n1 n2 = 0
      · rw [if_neg (by omega), if_neg (by omega), if_neg (by omega), if_neg (by omega), if_neg (by omega), if_neg (by omega), tr_eq (good_of c0) (good_of c1) (good_of c2)]
      · rw [if_neg (by omega), if_neg (by omega), if_pos c2, if_neg (by omega), if_neg (by omega), if_pos c2]
    · rw [if_neg (by omega), if_pos c1, if_neg (by omega), if_pos c1]
  · rw [if_pos c0, if_pos c0]
end Go.Proofs.Ytojhjhnmfjdbeaa

set_option linter.unusedSimpArgs false
namespace Go.Proofs.Ytojhjhnmfjdbeaa
open Go.Tn
set_option maxHeartbeats 4000000
set_option maxRecDepth 100000
theorem fc_seq1 (a b c : Int) : FC Try.prog 30 [] [.agg [.int .i64 a, .int .i64 b, .int .i64 c]] (.ret (.int .i64 a)) := by
  refine fc_M (fn := Try.f30) (C := (tab [] [])) (rs := [2]) mixed (by kernel_rfl) (by kernel_rfl) rfl rfl (by kernel_rfl) (by intro ys h; cases h) ?_
  simp +contextual (maxSteps := 5000000) only [go_sem, ↓reduceIte]
theorem fc_seq2 (a b c : Int) : FC Try.prog 31 [] [.agg [.int .i64 a, .int .i64 b, .int .i64 c]] (.ret (.int .i64 b)) := by
  refine fc_M (fn := Try.f31) (C := (tab [] [])) (rs := [2]) mixed (by kernel_rfl) (by kernel_rfl) rfl rfl (by kernel_rfl) (by intro ys h; cases h) ?_
  simp +contextual (maxSteps := 5000000) only [go_sem, ↓reduceIte]
theorem fc_seq3 (a b c : Int) : FC Try.prog 32 [] [.agg [.int .i64 a, .int .i64 b, .int .i64 c]] (.ret (.int .i64 c)) := by
  refine fc_M (fn := Try.f32) (C := (tab [] [])) (rs := [2]) mixed (by kernel_rfl) (by kernel_rfl) rfl rfl (by kernel_rfl) (by intro ys h; cases h) ?_
  simp +contextual (maxSteps := 5000000) only [go_sem, ↓reduceIte]
end Go.Proofs.Ytojhjhnmfjdbeaa

set_option linter.unusedSimpArgs false
namespace Go.Proofs.Ytojhjhnmfjdbeaa
open Go.Tn
set_option maxHeartbeats 4000000
set_option maxRecDepth 100000
def c_s1 (caps args : List D) : Prop × Out := match caps, args with | [], [.agg [.int .i64 a, .int .i64 _, .int .i64 _]] => (True, .ret (.int .i64 a)) | _, _ => (False, .ret .any)
def c_s2 (caps args : List D) : Prop × Out := match caps, args with | [], [.agg [.int .i64 _, .int .i64 b, .int .i64 _]] => (True, .ret (.int .i64 b)) | _, _ => (False, .ret .any)
def c_s3 (caps args : List D) : Prop × Out := match caps, args with | [], [.agg [.int .i64 _, .int .i64 _, .int .i64 c]] => (True, .ret (.int .i64 c)) | _, _ => (False, .ret .any)
theorem st_s1 : StC Try.prog 30 c_s1 := by
  intro caps args; unfold c_s1; split
  · exact fun _ => fc_seq1 _ _ _
  · exact fun h => h.elim
theorem st_s2 : StC Try.prog 31 c_s2 := by
  intro caps args; unfold c_s2; split
  · exact fun _ => fc_seq2 _ _ _
  · exact fun h => h.elim
theorem st_s3 : StC Try.prog 32 c_s3 := by
  intro caps args; unfold c_s3; split
  · exact fun _ => fc_seq3 _ _ _
  · exact fun h => h.elim
def c_cmp (caps args : List D) : Prop × Out := match caps, args with | [], [.int .i64 a, .int .i64 b] => (True, .ret (.int .i64 (cmpI a b))) | _, _ => (False, .ret .any)
theorem st_cmp : StC Try.prog 35 c_cmp := by
  intro caps args; unfold c_cmp; split
  · exact fun _ => fc_cmp _ _
  · exact fun h => h.elim
theorem fc_seq4a (L : List (Int × Int × Int)) (a b : Nat) (ha : a < L.length) (hb : b < L.length) : FC Try.prog 34 [.box [.fn 30 [] []], .box [.sl 3 (L.map eT)]] [.int .i64 a, .int .i64 b]
    (.ret (.int .i64 (cmpI (L.getD a (0, 0, 0)).1 (L.getD b (0, 0, 0)).1))) := by
  refine fc_M (fn := Try.f34) (C := (tab [(30, c_s1), (35, c_cmp)] [])) (rs := [6]) mixed (by kernel_rfl) (by kernel_rfl) rfl rfl (by kernel_rfl) (by intro ys h; cases h) ?_
  simp +contextual (maxSteps := 5000000) only [go_sem, ↓reduceIte, ha, hb, eT_at, c_s1, st_s1, c_cmp, st_cmp]
theorem fc_seq4b (L : List (Int × Int × Int)) (a b : Nat) (ha : a < L.length) (hb : b < L.length) : FC Try.prog 34 [.box [.fn 31 [] []], .box [.sl 3 (L.map eT)]] [.int .i64 a, .int .i64 b]
    (.ret (.int .i64 (cmpI (L.getD a (0, 0, 0)).2.1 (L.getD b (0, 0, 0)).2.1))) := by
  refine fc_M (fn := Try.f34) (C := (tab [(31, c_s2), (35, c_cmp)] [])) (rs := [6]) mixed (by kernel_rfl) (by kernel_rfl) rfl rfl (by kernel_rfl) (by intro ys h; cases h) ?_
  simp +contextual (maxSteps := 5000000) only [go_sem, ↓reduceIte, ha, hb, eT_at, c_s2, st_s2, c_cmp, st_cmp]
theorem fc_seq4c (L : List (Int × Int × Int)) (a b : Nat) (ha : a < L.length) (hb : b < L.length) : FC Try.prog 34 [.box [.fn 32 [] []], .box [.sl 3 (L.map eT)]] [.int .i64 a, .int .i64 b]
    (.ret (.int .i64 (cmpI (L.getD a (0, 0, 0)).2.2 (L.getD b (0, 0, 0)).2.2))) := by
  refine fc_M (fn := Try.f34) (C := (tab [(32, c_s3), (35, c_cmp)] [])) (rs := [6]) mixed (by kernel_rfl) (by kernel_rfl) rfl rfl (by kernel_rfl) (by intro ys h; cases h) ?_
  simp +contextual (maxSteps := 5000000) only [go_sem, ↓reduceIte, ha, hb, eT_at, c_s3, st_s3, c_cmp, st_cmp]
end Go.Proofs.Ytojhjhnmfjdbeaa

set_option linter.unusedSimpArgs false
namespace Go.Proofs.Ytojhjhnmfjdbeaa
open Go.Tn
set_option maxHeartbeats 4000000
set_option maxRecDepth 100000
/-- a closure that compares two numbers -/
def c_cl (cs : List D) (cm : Int → Int → Int) (l : List Int) (caps args : List D) : Prop × Out :=
  match args with
  | [.int .i64 x, .int .i64 y] => (caps = cs ∧ x ∈ l ∧ y ∈ l, .ret (.int .i64 (cm x y)))
  | _ => (False, .ret .any)
theorem st_cl {P : Program} {g : Nat} {cs : List D} {cm : Int → Int → Int} {l : List Int} (h : ∀ x ∈ l, ∀ y ∈ l, FC P g cs [.int .i64 x, .int .i64 y] (.ret (.int .i64 (cm x y)))) : StC P g (c_cl cs cm l) := by
  intro caps args
  unfold c_cl
  split
  · rintro ⟨rfl, hx, hy⟩; exact h _ hx _ hy
  · exact fun h => h.elim
theorem fcm_insertion (g : Nat) (cs : List D) (hcs : cleanL [.fn g [] cs] = true) (cm : Int → Int → Int) (le : Int → Int → Bool) (hle : ∀ x y, le x y = decide (0 ≤ cm y x)) (hp : Ps.Pre le) (l : List Int)
    (hc : ∀ x ∈ l, ∀ y ∈ l, FC Try.prog g cs [.int .i64 x, .int .i64 y] (.ret (.int .i64 (cm x y)))) (a b : Nat) (n : Nat) (hn : l.length = n) (h1 : a ≤ b) (h2 : b ≤ n) (h3 : n < 1000000000) :
    FCM Try.prog 57 [(true, .vec 1000 n), (false, .int .i64 a), (false, .int .i64 b), (false, .fn g [] cs)] [(1000, .vec 3 1 (l.map eI) 0)] [(1000, .vec 3 1 ((Ps.seg (Ps.srt le) l a b).map eI) 0)] (.ret (.tup [])) := by
  have cl := clrL_of (cl_fn hcs)
  have hst := st_cl hc
  refine fcm_M (fn := Try.f57) (C := (tab [(g, c_cl cs cm l)] [])) (rs := []) mixed (by kernel_rfl) (by kernel_rfl) rfl rfl (by kernel_rfl) ?_ ?_
  · simp +contextual (maxSteps := 5000000) only [go_sem, ↓reduceIte]
  simp +contextual (maxSteps := 5000000) only [go_sem, ↓reduceIte]
  refine ⟨⟨by omega, by omega⟩, fun _ => ?_⟩
  refine M_loopI (fun s : List (Int × Nat) × Nat => ⟨[(0, .vec 1000 n), (1, .int .i64 a), (2, .int .i64 b), (3, .fn g [] cs), (8, .int .i64 s.2)], [(1000, .vec 3 1 ((s.1.map (·.1)).map eI) 0)]⟩) (fun s => b + 1 - s.2)
    (fun s => Ps.OutI le l a s.1 s.2 ∧ a + 1 ≤ s.2 ∧ (s.2 ≤ b ∨ s.2 = a + 1)) (l.zipIdx, a + 1) ?_ ?_
  · simp +contextual (maxSteps := 5000000) only [go_sem, ↓reduceIte, cl.cv5, cl.rf5, cl.nw5, cl.fz5, cl.wkL, cl.inOL, Ps.zip_fst]
    and_intros
    all_goals first | omega | exact Ps.out_start l a | skip
  · intro ⟨t, i⟩ hi
    obtain ⟨i1, i2, i3⟩ := hi
    simp only at i1 i2 i3
    simp +contextual (maxSteps := 5000000) only [go_sem, ↓reduceIte]
    split
    · rename_i hlt
      refine M_loopI (fun s : List (Int × Nat) × Nat => ⟨[(0, .vec 1000 n), (1, .int .i64 a), (2, .int .i64 b), (3, .fn g [] cs), (8, .int .i64 i), (9, .int .i64 s.2)], [(1000, .vec 3 1 ((s.1.map (·.1)).map eI) 0)]⟩) (fun s => s.2)
        (fun s => Ps.InI le l a i s.1 s.2) (t, i) ?_ ?_
      · simp +contextual (maxSteps := 5000000) only [go_sem, ↓reduceIte, cl.cv5, cl.rf5, cl.nw5, cl.fz5, cl.wkL, cl.inOL]
        exact Ps.in_start i1 (by omega)
      · intro ⟨t, j⟩ hj
        simp only at hj
        have hlen := Ps.in_len hj
        have haj := hj.aj
        have hji := hj.ji
        simp +contextual (maxSteps := 5000000) only [go_sem, ↓reduceIte, eI_at, eI_set, List.length_set, tn_add, tn_sub1, c_cl, hst, cl.cv6, cl.rf6, cl.nw6, cl.fz6, cl.cv5, cl.rf5, cl.nw5, cl.fz5, cl.wkL, cl.inOL]
        simp only [aa, inR_iff]
        have hi' : i < l.length := by omega
        split
        · rename_i hja
          have g1 : ∃ x, t[j]? = some x := ⟨t[j]'(by omega), List.getElem?_eq_getElem (by omega)⟩
          have g2 : ∃ y, t[j - 1]? = some y := ⟨t[j - 1]'(by omega), List.getElem?_eq_getElem (by omega)⟩
          obtain ⟨x, hx⟩ := g1
          obtain ⟨y, hy⟩ := g2
          have hcm := hle y.1 x.1
          rw [Ps.tag_at 0 hx, Ps.tag_at 0 hy]
          refine ⟨⟨by omega, by omega⟩, ⟨by omega, by omega⟩, ⟨by omega, by omega⟩, by omega, ⟨?_, ?_⟩, ?_⟩
          · rw [← Ps.tag_at 0 hx]; exact Ps.tag_mem hj.pm 0 (by omega)
          · rw [← Ps.tag_at 0 hy]; exact Ps.tag_mem hj.pm 0 (by omega)
          split
          · rename_i hneg
            refine ⟨by omega, by omega, ⟨(Ps.swp (0, 0) t j (j - 1), j - 1), ⟨by simp only; omega, ?_⟩, by simp only; omega, ?_⟩⟩
            · simp only
              rw [Ps.swp_map]
              unfold Ps.swp
              simp only [Ps.tag_at 0 hx, Ps.tag_at 0 hy]
            · refine Ps.in_step hp (0, 0) hj hi' hja fun x' y' hx' hy' => ?_
              rw [hx] at hx'; cases hx'
              rw [hy] at hy'; cases hy'
              rw [hcm]; simp; omega
          · rename_i hneg
            refine ⟨⟨by omega, by omega⟩, ⟨(t, i + 1), ⟨by simp only; omega, rfl⟩, by simp only; omega, ?_, by simp only; omega, by simp only; omega⟩⟩
            refine Ps.in_end hp hj (by omega) hi' (.inr fun x' y' hx' hy' => ?_)
            rw [hx] at hx'; cases hx'
            rw [hy] at hy'; cases hy'
            rw [hcm]; simp; omega
        · rename_i hja
          refine ⟨⟨by omega, by omega⟩, ⟨(t, i + 1), ⟨by simp only; omega, rfl⟩, by simp only; omega, ?_, by simp only; omega, by simp only; omega⟩⟩
          exact Ps.in_end hp hj (by omega) hi' (.inl (by omega))
    · rename_i hge
      rw [Ps.out_end hp i1 h1 (by omega) (by omega) i3]
/-- closures that compare, on the members of a list -/
def CmpOn (g : Nat) (cs : List D) (cm : Int → Int → Int) (l : List Int) : Prop := (g ≠ 58 ∧ g ≠ 59 ∧ g ≠ 57 ∧ g ≠ 50) ∧ ∀ x ∈ l, ∀ y ∈ l, FC Try.prog g cs [.int .i64 x, .int .i64 y] (.ret (.int .i64 (cm x y)))
theorem CmpOn.perm {g : Nat} {cs : List D} {cm : Int → Int → Int} {l k : List Int} (h : CmpOn g cs cm l) (hp : k.Perm l) : CmpOn g cs cm k := ⟨h.1, fun x hx y hy => h.2 x (hp.mem_iff.1 hx) y (hp.mem_iff.1 hy)⟩
structure CmpLe (cm : Int → Int → Int) (le : Int → Int → Bool) : Prop where
  e : ∀ x y, le x y = decide (0 ≤ cm y x)
  p : Ps.Pre le
theorem CmpLe.f {cm : Int → Int → Int} {le : Int → Int → Bool} (h : CmpLe cm le) {x y : Int} : le x y = false ↔ cm y x < 0 := by rw [h.e, decide_eq_false_iff_not]; omega
theorem CmpLe.t {cm : Int → Int → Int} {le : Int → Int → Bool} (h : CmpLe cm le) {x y : Int} : le x y = true ↔ ¬ cm y x < 0 := by rw [h.e, decide_eq_true_iff]; omega
def cm_is1 (cm : Int → Int → Int) (le : Int → Int → Bool) (i n : Nat) (a b : Int) (g : Nat) (cs : List D) : Option LObj → MS
  | some (.vec e 1 rows 0) => .yes ((e = 3 ∧ rows = (rows.map dI).map eI) ∧ (rows.length = n ∧ n < 1000000000) ∧ (0 ≤ a ∧ a ≤ b ∧ b ≤ n) ∧ cleanL [.fn g [] cs] = true ∧ CmpOn g cs cm (rows.map dI)) [i] [(i, .vec e 1 ((Ps.seg (Ps.srt le) (rows.map dI) a.toNat b.toNat).map eI) 0)] (.ret (.tup []))
  | _ => .bad
def cm_is (cm : Int → Int → Int) (le : Int → Int → Bool) (ds : List D) (H : Hp) : MS := match ds with | [.vec i n, .int .i64 a, .int .i64 b, .fn g [] cs] => cm_is1 cm le i n a b g cs (H i) | _ => .bad
theorem stm_is {cm : Int → Int → Int} {le : Int → Int → Bool} (hcl : CmpLe cm le) : StMC Try.prog 57 [0] (cm_is cm le) := by
  intro ds H pre mu o1 out h hp
  unfold cm_is at h
  split at h
  · rename_i i n a b g cs
    unfold cm_is1 at h
    split at h
    · rename_i e rows hi
      cases h
      obtain ⟨⟨rfl, hr⟩, ⟨rfl, h3⟩, ⟨ha, h1, h2⟩, hcs, hc⟩ := hp
      rw [objs_one hi]
      have := (fcm_insertion g cs hcs cm le hcl.e hcl.p (rows.map dI) hc.2 a.toNat b.toNat rows.length (by simp) (by omega) (by omega) h3).one i trivial (by simp [plainO])
      rw [← hr, Int.toNat_of_nonneg ha, Int.toNat_of_nonneg (by omega)] at this
      simp only [renF, ren1, renLO, renO, renM, ren, renL, sw_l] at this
      exact this
    · cases h
  · cases h
def cm_ro1 (i n : Nat) (a m b : Int) (f : D) : Option LObj → MS
  | some (.vec e 1 rows 0) => .yes ((e = 3 ∧ rows = (rows.map dI).map eI) ∧ (rows.length = n ∧ n < 1000000000) ∧ (0 ≤ a ∧ a < m ∧ m < b ∧ b ≤ n) ∧ cleanL [f] = true) [i] [(i, .vec e 1 ((Ps.rot (rows.map dI) a.toNat m.toNat b.toNat).map eI) 0)] (.ret (.tup []))
  | _ => .bad
def cm_ro (ds : List D) (H : Hp) : MS := match ds with | [.vec i n, .int .i64 a, .int .i64 m, .int .i64 b, f] => cm_ro1 i n a m b f (H i) | _ => .bad
theorem stm_ro : StMC Try.prog 59 [0] cm_ro := by
  intro ds H pre mu o1 out h hp
  unfold cm_ro at h
  split at h
  · rename_i i n a m b f
    unfold cm_ro1 at h
    split at h
    · rename_i e rows hi
      cases h
      obtain ⟨⟨rfl, hr⟩, ⟨rfl, h3⟩, ⟨ha, h1, h2, h4⟩, hf⟩ := hp
      rw [objs_one hi]
      have := (fcm_rotate (rows.map dI) a.toNat m.toNat b.toNat f hf rows.length (by simp) (by omega) (by omega) (by omega) h3).one i trivial (by simp [plainO])
      rw [← hr, Int.toNat_of_nonneg ha, Int.toNat_of_nonneg (by omega), Int.toNat_of_nonneg (by omega)] at this
      simp only [renF, ren1, renLO, renO, renM, ren, renL, sw_l] at this
      exact this
    · cases h
  · cases h
end Go.Proofs.Ytojhjhnmfjdbeaa

set_option linter.unusedSimpArgs false
namespace Go.Proofs.Ytojhjhnmfjdbeaa
open Go.Tn
set_option maxHeartbeats 8000000
set_option maxRecDepth 100000
def cm_sm1 (cm : Int → Int → Int) (le : Int → Int → Bool) (k : Nat) (i n : Nat) (a m b : Int) (g : Nat) (cs : List D) : Option LObj → MS
  | some (.vec e 1 rows 0) => .yes ((e = 3 ∧ rows = (rows.map dI).map eI) ∧ (rows.length = n ∧ n < 1000000000) ∧ (0 ≤ a ∧ a < m ∧ m < b ∧ b ≤ n ∧ b - a < k) ∧ (cleanL [.fn g [] cs] = true ∧ CmpOn g cs cm (rows.map dI)) ∧ Ps.Sd le (rows.map dI) a.toNat m.toNat ∧ Ps.Sd le (rows.map dI) m.toNat b.toNat) [i] [(i, .vec e 1 ((Ps.seg (Ps.srt le) (rows.map dI) a.toNat b.toNat).map eI) 0)] (.ret (.tup []))
  | _ => .bad
def cm_sm (cm : Int → Int → Int) (le : Int → Int → Bool) (k : Nat) (ds : List D) (H : Hp) : MS := match ds with | [.vec i n, .int .i64 a, .int .i64 m, .int .i64 b, .fn g [] cs] => cm_sm1 cm le k i n a m b g cs (H i) | _ => .bad
theorem fcm_sm (g : Nat) (cs : List D) (hcs : cleanL [.fn g [] cs] = true) (cm : Int → Int → Int) (le : Int → Int → Bool) (hcl : CmpLe cm le) (kk : Nat) (hst : StMC Try.prog 58 [0] (cm_sm cm le kk)) (l : List Int) (hc : CmpOn g cs cm l)
    (a m b : Nat) (n : Nat) (hn : l.length = n) (h1 : a < m) (h2 : m < b) (h4 : b ≤ n) (h3 : n < 1000000000) (hk : b - a ≤ kk) (hA : Ps.Sd le l a m) (hB : Ps.Sd le l m b) :
    FCM Try.prog 58 [(true, .vec 1000 n), (false, .int .i64 a), (false, .int .i64 m), (false, .int .i64 b), (false, .fn g [] cs)] [(1000, .vec 3 1 (l.map eI) 0)] [(1000, .vec 3 1 ((Ps.seg (Ps.srt le) l a b).map eI) 0)] (.ret (.tup [])) := by
  have cl := clrL_of (cl_fn hcs)
  have hsc := st_cl hc.2
  have ng := hc.1
  have hp := hcl.p
  have hle := hcl.e
  refine fcm_M (fn := Try.f58) (C := (tab [(g, c_cl cs cm l)] [(58, [0], cm_sm cm le kk), (59, [0], cm_ro)] [39, 41])) (rs := []) mixed (by kernel_rfl) (by kernel_rfl) rfl rfl (by kernel_rfl) ?_ ?_
  · simp +contextual (maxSteps := 5000000) only [go_sem, ↓reduceIte]
  have gd : ∀ {p : Nat} {x : Int}, l[p]? = some x → l.getD p 0 = x := fun {p x} h => by rw [List.getD_eq_getElem?_getD, h]; rfl
  have hmem : ∀ {p : Nat}, p < l.length → l.getD p 0 ∈ l := fun {p} h => by rw [List.getD_eq_getElem?_getD, List.getElem?_eq_getElem h]; exact List.getElem_mem h
  have gs : ∀ {p : Nat}, p < l.length → l[p]? = some (l.getD p 0) := fun {p} h => by rw [List.getD_eq_getElem?_getD, List.getElem?_eq_getElem h]; rfl
  simp +contextual (maxSteps := 5000000) only [go_sem, ↓reduceIte, eI_at, eI_set, List.length_set, tn_add, tn_add1, tn_sub, tn_sub1, sh1, sh1b, half_cast]
  refine ⟨⟨by omega, by omega⟩, fun _ => ?_⟩
  split
  · rename_i e1
    have e1 : m = a + 1 := by omega
    subst e1
    refine M_loopI (fun s : Nat × Nat => ⟨[(0, .vec 1000 n), (1, .int .i64 a), (2, .int .i64 (a + 1 : Nat)), (3, .int .i64 b), (4, .fn g [] cs), (10, .int .i64 s.1), (11, .int .i64 s.2)], [(1000, .vec 3 1 (l.map eI) 0)]⟩) (fun s => s.2 - s.1)
      (fun s => a + 1 ≤ s.1 ∧ s.1 ≤ s.2 ∧ s.2 ≤ b ∧ (∀ p, a + 1 ≤ p → p < s.1 → cm (l.getD p 0) (l.getD a 0) < 0) ∧ ∀ p, s.2 ≤ p → p < b → ¬ cm (l.getD p 0) (l.getD a 0) < 0) (a + 1, b) ?_ ?_
    · simp +contextual (maxSteps := 5000000) only [go_sem, ↓reduceIte, cl.cv6, cl.rf6, cl.nw6, cl.fz6, cl.cv5, cl.rf5, cl.nw5, cl.fz5, cl.wkL, cl.inOL]
      and_intros
      all_goals first | omega | (intros; omega)
    · intro ⟨i, j⟩ hi
      obtain ⟨i1, i2, i3, i4, i5⟩ := hi
      simp only at i1 i2 i3 i4 i5
      simp +contextual (maxSteps := 5000000) only [go_sem, ↓reduceIte, eI_at, eI_set, List.length_set, tn_add, tn_add1, tn_sub, tn_sub1, sh1, sh1b, half_cast, cl.cv6, cl.rf6, cl.nw6, cl.fz6, cl.cv5, cl.rf5, cl.nw5, cl.fz5, cl.wkL, cl.inOL, c_cl, hsc, ng]
      simp only [aa, inR_iff, inR_u64]
      split
      · rename_i hij
        have hh : i ≤ (i + j) / 2 ∧ (i + j) / 2 < j := by omega
        generalize (i + j) / 2 = h at hh ⊢
        and_intros
        all_goals first | omega | exact hmem (by omega) | skip
        split
        · rename_i hneg
          and_intros
          all_goals first | omega | skip
          refine ⟨(h + 1, j), ⟨by simp only; omega, rfl⟩, by simp only; omega, by simp only; omega, by simp only; omega, by simp only; omega, fun p p1 p2 => ?_, i5⟩
          simp only at p2
          by_cases e : p = h
          · rw [e]; exact hneg
          · have h5 := hB p h _ _ (by omega) (by omega) (by omega) (gs (by omega)) (gs (by omega))
            have h6 : le (l.getD a 0) (l.getD h 0) = false := hcl.f.2 hneg
            cases h7 : le (l.getD a 0) (l.getD p 0) with
            | true => rw [hp.tr _ _ _ h7 h5] at h6; cases h6
            | false => exact hcl.f.1 h7
        · rename_i hneg
          refine ⟨(i, h), ⟨rfl, rfl⟩, by simp only; omega, i1, by simp only; omega, by simp only; omega, i4, fun p p1 p2 => ?_⟩
          simp only at p1
          by_cases e : p = h
          · rw [e]; exact hneg
          · have h5 := hB h p _ _ (by omega) (by omega) (by omega) (gs (by omega)) (gs (by omega))
            have h6 : le (l.getD a 0) (l.getD h 0) = true := hcl.t.2 hneg
            have h7 := hp.tr _ _ _ h6 h5
            exact hcl.t.1 h7
      · rename_i hij
        have hij : i = j := by omega
        subst hij
        have fin : Ps.rot l a (a + 1) i = Ps.seg (Ps.srt le) l a b := Ps.front_seg hp i1 i3 (by omega) hB
          (fun p x y p1 p2 hx hy => by have := i4 p p1 p2; rw [gd hx, gd hy] at this; exact hcl.f.2 this)
          (fun p x y p1 p2 hx hy => by have := i5 p p1 p2; rw [gd hx, gd hy] at this; exact hcl.t.2 this)
        refine M_loopI (fun k : Nat => ⟨[(0, .vec 1000 n), (10, .int .i64 i), (13, .int .i64 k)], [(1000, .vec 3 1 ((Ps.rot l a (a + 1) (k + 1)).map eI) 0)]⟩) (fun k => i - k) (fun k => a ≤ k ∧ k < i) a ?_ ?_
        · simp +contextual (maxSteps := 5000000) only [go_sem, ↓reduceIte, cl.cv6, cl.rf6, cl.nw6, cl.fz6, cl.cv5, cl.rf5, cl.nw5, cl.fz5, cl.wkL, cl.inOL]
          rw [Ps.rot_triv (by omega) (by omega) (by omega) (.inr rfl)]
          exact ⟨rfl, by omega⟩
        · intro k hk
          have hlen := Ps.rot_len (l := l) (a := a) (m := a + 1) (b := k + 1) (by omega) (by omega) (by omega)
          simp +contextual (maxSteps := 5000000) only [go_sem, ↓reduceIte, eI_at, eI_set, List.length_set, tn_add, tn_add1, tn_sub, tn_sub1, sh1, sh1b, half_cast, cl.cv6, cl.rf6, cl.nw6, cl.fz6, cl.cv5, cl.rf5, cl.nw5, cl.fz5, cl.wkL, cl.inOL]
          simp only [aa, inR_iff, inR_u64]
          and_intros
          · omega
          · omega
          split
          · rename_i hlt
            and_intros
            all_goals first | omega | skip
            refine ⟨k + 1, ⟨by omega, ?_⟩, by omega, by omega, by omega⟩
            rw [← Ps.rot_up 0 (by omega) (by omega)]
            rfl
          · rename_i hge
            have : k + 1 = i := by omega
            rw [this, fin]
  · rename_i e1
    refine ⟨⟨by omega, by omega⟩, fun _ => ?_⟩
    split
    · rename_i e2
      have e2 : b = m + 1 := by omega
      subst e2
      refine M_loopI (fun s : Nat × Nat => ⟨[(0, .vec 1000 n), (1, .int .i64 a), (2, .int .i64 m), (3, .int .i64 (m + 1 : Nat)), (4, .fn g [] cs), (14, .int .i64 s.1), (15, .int .i64 s.2)], [(1000, .vec 3 1 (l.map eI) 0)]⟩) (fun s => s.2 - s.1)
        (fun s => a ≤ s.1 ∧ s.1 ≤ s.2 ∧ s.2 ≤ m ∧ (∀ p, a ≤ p → p < s.1 → ¬ cm (l.getD m 0) (l.getD p 0) < 0) ∧ ∀ p, s.2 ≤ p → p < m → cm (l.getD m 0) (l.getD p 0) < 0) (a, m) ?_ ?_
      · simp +contextual (maxSteps := 5000000) only [go_sem, ↓reduceIte, cl.cv6, cl.rf6, cl.nw6, cl.fz6, cl.cv5, cl.rf5, cl.nw5, cl.fz5, cl.wkL, cl.inOL]
        and_intros
        all_goals first | omega | (intros; omega)
      · intro ⟨i, j⟩ hi
        obtain ⟨i1, i2, i3, i4, i5⟩ := hi
        simp only at i1 i2 i3 i4 i5
        simp +contextual (maxSteps := 5000000) only [go_sem, ↓reduceIte, eI_at, eI_set, List.length_set, tn_add, tn_add1, tn_sub, tn_sub1, sh1, sh1b, half_cast, cl.cv6, cl.rf6, cl.nw6, cl.fz6, cl.cv5, cl.rf5, cl.nw5, cl.fz5, cl.wkL, cl.inOL, c_cl, hsc, ng]
        simp only [aa, inR_iff, inR_u64]
        split
        · rename_i hij
          have hh : i ≤ (i + j) / 2 ∧ (i + j) / 2 < j := by omega
          generalize (i + j) / 2 = h at hh ⊢
          and_intros
          all_goals first | omega | exact hmem (by omega) | skip
          split
          · rename_i hneg
            and_intros
            all_goals first | omega | skip
            refine ⟨(h + 1, j), ⟨by simp only; omega, rfl⟩, by simp only; omega, by simp only; omega, by simp only; omega, by simp only; omega, fun p p1 p2 => ?_, i5⟩
            simp only at p2
            by_cases e : p = h
            · rw [e]; exact hneg
            · have h5 := hA p h _ _ (by omega) (by omega) (by omega) (gs (by omega)) (gs (by omega))
              have h6 : le (l.getD h 0) (l.getD m 0) = true := hcl.t.2 hneg
              exact hcl.t.1 (hp.tr _ _ _ h5 h6)
          · rename_i hneg
            have hneg := Classical.not_not.1 hneg
            refine ⟨(i, h), ⟨rfl, rfl⟩, by simp only; omega, i1, by simp only; omega, by simp only; omega, i4, fun p p1 p2 => ?_⟩
            simp only at p1
            by_cases e : p = h
            · rw [e]; exact hneg
            · have h5 := hA h p _ _ (by omega) (by omega) (by omega) (gs (by omega)) (gs (by omega))
              have h6 : le (l.getD h 0) (l.getD m 0) = false := hcl.f.2 hneg
              cases h7 : le (l.getD p 0) (l.getD m 0) with
              | true => rw [hp.tr _ _ _ h5 h7] at h6; cases h6
              | false => exact hcl.f.1 h7
        · rename_i hij
          have hij : i = j := by omega
          subst hij
          have fin : Ps.rot l i m (m + 1) = Ps.seg (Ps.srt le) l a (m + 1) := Ps.back_seg hp i1 i3 (by omega) hA
            (fun p x y p1 p2 hx hy => by have := i4 p p1 p2; rw [gd hx, gd hy] at this; exact hcl.t.2 this)
            (fun p x y p1 p2 hx hy => by have := i5 p p1 p2; rw [gd hx, gd hy] at this; exact hcl.f.2 this)
          refine M_loopI (fun k : Nat => ⟨[(0, .vec 1000 n), (14, .int .i64 i), (17, .int .i64 k)], [(1000, .vec 3 1 ((Ps.rot l k m (m + 1)).map eI) 0)]⟩) (fun k => k) (fun k => i ≤ k ∧ k ≤ m) m ?_ ?_
          · simp +contextual (maxSteps := 5000000) only [go_sem, ↓reduceIte, cl.cv6, cl.rf6, cl.nw6, cl.fz6, cl.cv5, cl.rf5, cl.nw5, cl.fz5, cl.wkL, cl.inOL]
            rw [Ps.rot_triv (by omega) (by omega) (by omega) (.inl rfl)]
            exact ⟨rfl, by omega⟩
          · intro k hk
            have hlen := Ps.rot_len (l := l) (a := k) (m := m) (b := m + 1) (by omega) (by omega) (by omega)
            simp +contextual (maxSteps := 5000000) only [go_sem, ↓reduceIte, eI_at, eI_set, List.length_set, tn_add, tn_add1, tn_sub, tn_sub1, sh1, sh1b, half_cast, cl.cv6, cl.rf6, cl.nw6, cl.fz6, cl.cv5, cl.rf5, cl.nw5, cl.fz5, cl.wkL, cl.inOL]
            simp only [aa, inR_iff, inR_u64]
            split
            · rename_i hlt
              and_intros
              all_goals first | omega | skip
              refine ⟨k - 1, ⟨by omega, ?_⟩, by omega, by omega, by omega⟩
              rw [← Ps.rot_down 0 (by omega) (by omega) (by omega)]
              rfl
            · rename_i hge
              have : k = i := by omega
              rw [this, fin]
    · rename_i e2
      obtain ⟨mid, hmid⟩ : ∃ mid, mid = (a + b) / 2 := ⟨_, rfl⟩
      obtain ⟨lo, hlo⟩ : ∃ lo, lo = if mid < m then mid + m - b else a := ⟨_, rfl⟩
      obtain ⟨hi, hhi⟩ : ∃ hi, hi = if mid < m then mid else m := ⟨_, rfl⟩
      rw [← hmid]
      have hmid2 : 2 * mid ≤ a + b ∧ a + b ≤ 2 * mid + 1 := by omega
      clear hmid
      simp only [aa, inR_iff, inR_u64]
      and_intros
      all_goals first | omega | skip
      split
      all_goals
        rename_i hmm
        first | rw [if_pos hmm] at hlo hhi | rw [if_neg hmm] at hlo hhi
        have hF : a ≤ lo ∧ lo ≤ hi ∧ hi ≤ m ∧ hi ≤ mid ∧ mid + m ≤ lo + b ∧ (lo = a ∨ lo + b = mid + m) ∧ (hi = mid ∨ hi = m) := by omega
        and_intros
        all_goals first | omega | skip
        refine M_loopI (fun s : Nat × Nat => ⟨[(0, .vec 1000 n), (1, .int .i64 a), (2, .int .i64 m), (3, .int .i64 b), (4, .fn g [] cs), (18, .int .i64 mid), (19, .int .i64 (mid + m : Nat)), (20, .int .i64 s.1), (21, .int .i64 s.2), (22, .int .i64 (mid + m - 1 : Nat))], [(1000, .vec 3 1 (l.map eI) 0)]⟩) (fun s => s.2 - s.1)
          (fun s => lo ≤ s.1 ∧ s.1 ≤ s.2 ∧ s.2 ≤ hi ∧ (s.1 = lo ∨ ¬ cm (l.getD (mid + m - s.1) 0) (l.getD (s.1 - 1) 0) < 0) ∧ (s.2 = hi ∨ cm (l.getD (mid + m - 1 - s.2) 0) (l.getD s.2 0) < 0)) (lo, hi) ?_ ?_
        · simp +contextual (maxSteps := 5000000) only [go_sem, ↓reduceIte, cl.cv6, cl.rf6, cl.nw6, cl.fz6, cl.cv5, cl.rf5, cl.nw5, cl.fz5, cl.wkL, cl.inOL]
          and_intros
          all_goals omega
        · intro ⟨i, j⟩ hi
          obtain ⟨i1, i2, i3, i4, i5⟩ := hi
          simp only at i1 i2 i3 i4 i5
          simp +contextual (maxSteps := 5000000) only [go_sem, ↓reduceIte, eI_at, eI_set, List.length_set, tn_add, tn_add1, tn_sub, tn_sub1, sh1, sh1b, half_cast, cl.cv6, cl.rf6, cl.nw6, cl.fz6, cl.cv5, cl.rf5, cl.nw5, cl.fz5, cl.wkL, cl.inOL, c_cl, hsc, ng, cm_sm, cm_sm1, hst, cm_ro, cm_ro1, stm_ro, dI_eI]
          simp only [aa, inR_iff, inR_u64]
          split
          · rename_i hij
            have hh : i ≤ (i + j) / 2 ∧ (i + j) / 2 < j := by omega
            generalize (i + j) / 2 = h at hh ⊢
            and_intros
            all_goals first | omega | exact hmem (by omega) | skip
            split
            · rename_i hneg
              and_intros
              all_goals first | omega | skip
              refine ⟨(h + 1, j), ⟨by simp only; omega, rfl⟩, by simp only; omega, by simp only; omega, by simp only; omega, by simp only; omega, .inr ?_, i5⟩
              simp only
              rw [show mid + m - (h + 1) = mid + m - 1 - h from by omega, show h + 1 - 1 = h from rfl]
              exact hneg
            · rename_i hneg
              exact ⟨(i, h), ⟨rfl, rfl⟩, by simp only; omega, by simp only; omega, by simp only; omega, by simp only; omega, i4, .inr (Classical.not_not.1 hneg)⟩
          · rename_i hij
            have hij : i = j := by omega
            subst hij
            obtain ⟨e, he⟩ : ∃ e, e = mid + m - i := ⟨_, rfl⟩
            have hE : i + (e - m) = mid ∧ m ≤ e ∧ e ≤ b ∧ a ≤ i ∧ i ≤ m := by omega
            have c1 : i = a ∨ e = b ∨ ∀ x y, l[i - 1]? = some x → l[e]? = some y → le x y = true := by
              rcases i4 with h | h
              · omega
              · rw [← he] at h
                exact .inr (.inr fun x y hx hy => by rw [gd hx, gd hy] at h; exact hcl.t.2 h)
            have c2 : i = m ∨ e = m ∨ ∀ x y, l[i]? = some x → l[e - 1]? = some y → le x y = false := by
              rcases i5 with h | h
              · omega
              · rw [show mid + m - 1 - i = e - 1 from by omega] at h
                exact .inr (.inr fun x y hx hy => by rw [gd hx, gd hy] at h; exact hcl.f.2 h)
            have hj := Ps.sym_join hp hE.2.2.2.1 hE.2.2.2.2 hE.2.1 hE.2.2.1 (by omega) hA hB c1 c2
            rw [hE.1] at hj
            obtain ⟨d1, d2, d3, d4⟩ := Ps.sd_rot_l hE.2.2.2.1 hE.2.2.2.2 hE.2.1 hE.2.2.1 (by omega) hA hB
            rw [hE.1] at d2 d3
            have hl1 := Ps.rot_len hE.2.2.2.2 hE.2.1 (l := l) (by omega)
            have p1 := Ps.rot_perm hE.2.2.2.2 hE.2.1 (l := l) (by omega)
            have htr : i = m ∨ m = e → Ps.rot l i m e = l := fun h => Ps.rot_triv hE.2.2.2.2 hE.2.1 (by omega) h
            clear c1 c2 i4 i5 hF hlo hhi
            have e24 : ((mid + m : Nat) : Int) - (i : Int) = (e : Int) := by omega
            rw [e24]
            refine ⟨by omega, ?_⟩
            generalize hl1e : Ps.rot l i m e = l1 at hj d1 d2 d3 d4 hl1 p1 htr
            have hl2 : (Ps.seg (Ps.srt le) l1 a mid).length = n := by rw [Ps.seg_len Ps.srt_len (by omega) (by omega)]; omega
            have p2 : (Ps.seg (Ps.srt le) l1 a mid).Perm l1 := Ps.seg_perm (by omega)
            have d3' := Ps.sd_seg (f := Ps.srt le) Ps.srt_len (a := a) (b := mid) (by omega) (by omega) d3 (.inr (Nat.le_refl _))
            have d4' := Ps.sd_seg (f := Ps.srt le) Ps.srt_len (a := a) (b := mid) (by omega) (by omega) d4 (.inr (by omega))
            have s1 : ¬ (a < i ∧ i < mid) → Ps.seg (Ps.srt le) l1 a mid = l1 := fun h => Ps.seg_id (by omega) (by
              by_cases c : a < i
              · have : i = mid := by omega
                rw [← this]; exact d1
              · have : i = a := by omega
                rw [← this]; exact d2)
            have s2 : ¬ (mid < e ∧ e < b) → Ps.seg (Ps.srt le) (Ps.seg (Ps.srt le) l1 a mid) mid b = Ps.seg (Ps.srt le) l1 a mid := fun h => Ps.seg_id (by omega) (by
              by_cases c : mid < e
              · have : e = b := by omega
                rw [this] at d3'; exact d3'
              · have : e = mid := by omega
                rw [this] at d4'; exact d4')
            rw [← hj]
            generalize hl2e : Ps.seg (Ps.srt le) l1 a mid = l2 at hj hl2 p2 d3' d4' s1 s2
            refine M_join (fun _ : Unit => ⟨[(0, .vec 1000 n), (1, .int .i64 a), (3, .int .i64 b), (4, .fn g [] cs), (18, .int .i64 mid), (20, .int .i64 i), (24, .int .i64 e)], [(1000, .vec 3 1 (l1.map eI) 0)]⟩) (fun _ => True) ?_ ?_
            · simp +contextual (maxSteps := 5000000) only [go_sem, ↓reduceIte, eI_at, eI_set, List.length_set, tn_add, tn_add1, tn_sub, tn_sub1, sh1, sh1b, half_cast, cl.cv6, cl.rf6, cl.nw6, cl.fz6, cl.cv5, cl.rf5, cl.nw5, cl.fz5, cl.wkL, cl.inOL, cm_ro, cm_ro1, stm_ro, dI_eI]
              split
              · split
                · exact ⟨⟨⟨hn, h3⟩, by omega, hcs⟩, (), by rw [hl1e]⟩
                · rw [htr (by omega)]; exact ⟨(), rfl⟩
              · rw [htr (by omega)]; exact ⟨(), rfl⟩
            · intro _ _
              refine M_join (fun _ : Unit => ⟨[(0, .vec 1000 n), (3, .int .i64 b), (4, .fn g [] cs), (18, .int .i64 mid), (24, .int .i64 e)], [(1000, .vec 3 1 (l2.map eI) 0)]⟩) (fun _ => True) ?_ ?_
              · simp +contextual (maxSteps := 5000000) only [go_sem, ↓reduceIte, eI_at, eI_set, List.length_set, tn_add, tn_add1, tn_sub, tn_sub1, sh1, sh1b, half_cast, cl.cv6, cl.rf6, cl.nw6, cl.fz6, cl.cv5, cl.rf5, cl.nw5, cl.fz5, cl.wkL, cl.inOL, cm_sm, cm_sm1, hst, dI_eI]
                split
                · split
                  · exact ⟨⟨⟨by omega, h3⟩, by omega, ⟨hcs, hc.perm p1⟩, d1, d2⟩, (), by rw [hl2e]⟩
                  · rw [s1 (by omega)]; exact ⟨(), rfl⟩
                · rw [s1 (by omega)]; exact ⟨(), rfl⟩
              · intro _ _
                simp +contextual (maxSteps := 5000000) only [go_sem, ↓reduceIte, eI_at, eI_set, List.length_set, tn_add, tn_add1, tn_sub, tn_sub1, sh1, sh1b, half_cast, cl.cv6, cl.rf6, cl.nw6, cl.fz6, cl.cv5, cl.rf5, cl.nw5, cl.fz5, cl.wkL, cl.inOL, cm_sm, cm_sm1, hst, dI_eI]
                split
                · split
                  · exact ⟨⟨hl2, h3⟩, by omega, ⟨hcs, hc.perm (p2.trans p1)⟩, d3', d4'⟩
                  · rw [s2 (by omega)]
                · rw [s2 (by omega)]
end Go.Proofs.Ytojhjhnmfjdbeaa

set_option linter.unusedSimpArgs false
namespace Go.Proofs.Ytojhjhnmfjdbeaa
open Go.Tn
set_option maxHeartbeats 8000000
set_option maxRecDepth 100000
theorem stm_sm {cm : Int → Int → Int} {le : Int → Int → Bool} (hcl : CmpLe cm le) : ∀ k, StMC Try.prog 58 [0] (cm_sm cm le k)
  | 0 => by
    intro ds H pre mu o1 out h hp
    unfold cm_sm at h
    split at h
    · unfold cm_sm1 at h
      split at h
      · cases h
        obtain ⟨_, _, ⟨ha, h1, h2, h4, hk⟩, _⟩ := hp
        omega
      · cases h
    · cases h
  | k + 1 => by
    intro ds H pre mu o1 out h hp
    unfold cm_sm at h
    split at h
    · rename_i i n a m b g cs
      unfold cm_sm1 at h
      split at h
      · rename_i e rows hi
        cases h
        obtain ⟨⟨rfl, hr⟩, ⟨rfl, h3⟩, ⟨ha, h1, h2, h4, hk⟩, ⟨hcs, hc⟩, hA, hB⟩ := hp
        rw [objs_one hi]
        have := (fcm_sm g cs hcs cm le hcl k (stm_sm hcl k) (rows.map dI) hc a.toNat m.toNat b.toNat rows.length (by simp) (by omega) (by omega) (by omega) h3 (by omega) hA hB).one i trivial (by simp [plainO])
        rw [← hr, Int.toNat_of_nonneg ha, Int.toNat_of_nonneg (by omega), Int.toNat_of_nonneg (by omega)] at this
        simp only [renF, ren1, renLO, renO, renM, ren, renL, sw_l] at this
        exact this
      · cases h
    · cases h
theorem fcm_stable (g : Nat) (cs : List D) (hcs : cleanL [.fn g [] cs] = true) (cm : Int → Int → Int) (le : Int → Int → Bool) (hcl : CmpLe cm le) (l : List Int) (hc : CmpOn g cs cm l)
    (n : Nat) (hn : l.length = n) (h3 : n < 1000000000) :
    FCM Try.prog 50 [(true, .vec 1000 n), (false, .int .i64 n), (false, .fn g [] cs)] [(1000, .vec 3 1 (l.map eI) 0)] [(1000, .vec 3 1 ((Ps.srt le l).map eI) 0)] (.ret (.tup [])) := by
  have cl := clrL_of (cl_fn hcs)
  have hp := hcl.p
  have hs1 := stm_is hcl
  have hs2 := stm_sm hcl (n + 1)
  refine fcm_M (fn := Try.f50) (C := (tab [] [(58, [0], cm_sm cm le (n + 1)), (57, [0], cm_is cm le)])) (rs := []) mixed (by kernel_rfl) (by kernel_rfl) rfl rfl (by kernel_rfl) ?_ ?_
  · simp +contextual (maxSteps := 5000000) only [go_sem, ↓reduceIte]
  simp +contextual (maxSteps := 5000000) only [go_sem, ↓reduceIte, eI_at, eI_set, List.length_set, tn_add, tn_add1, tn_sub, tn_sub1, sh1, sh1b, half_cast]
  refine M_loopI (fun s : List Int × Nat => ⟨[(0, .vec 1000 n), (1, .int .i64 n), (2, .fn g [] cs), (6, .int .i64 20), (7, .int .i64 s.2), (8, .int .i64 (s.2 + 20 : Nat))], [(1000, .vec 3 1 (s.1.map eI) 0)]⟩) (fun s => n - s.2)
    (fun s => s.1.length = n ∧ s.1.Perm l ∧ s.2 ≤ n ∧ Ps.Done le l s.1 20 s.2 ∧ ∀ p, s.2 ≤ p → s.1[p]? = l[p]?) (l, 0) ?_ ?_
  · simp +contextual (maxSteps := 5000000) only [go_sem, ↓reduceIte, cl.cv6, cl.rf6, cl.nw6, cl.fz6, cl.cv5, cl.rf5, cl.nw5, cl.fz5, cl.wkL, cl.inOL]
    and_intros
    all_goals first | omega | exact List.Perm.refl _ | exact Ps.Done.nil | (intros; rfl) | skip
  · intro ⟨k, a⟩ hi
    obtain ⟨i1, i2, i3, i4, i5⟩ := hi
    simp only at i1 i2 i3 i4 i5
    simp +contextual (maxSteps := 5000000) only [go_sem, ↓reduceIte, eI_at, eI_set, List.length_set, tn_add, tn_add1, tn_sub, tn_sub1, sh1, sh1b, half_cast, cl.cv6, cl.rf6, cl.nw6, cl.fz6, cl.cv5, cl.rf5, cl.nw5, cl.fz5, cl.wkL, cl.inOL, cm_is, cm_is1, hs1, dI_eI]
    simp only [aa, inR_iff]
    subst hn
    split
    · rename_i hlt
      have hl := Ps.seg_len' (le := le) (l := k) (a := a) (b := a + 20) (by omega) (by omega)
      refine ⟨⟨⟨i1, h3⟩, by omega, hcs, hc.perm i2⟩, ⟨by omega, by omega⟩, ⟨(Ps.seg (Ps.srt le) k a (a + 20), a + 20), ⟨⟨rfl, by simp only; omega⟩, rfl⟩, by simp only; omega, by simp only; omega, (Ps.seg_perm (by omega)).trans i2, hlt, ?_, fun p hp' => ?_⟩⟩
      · exact (i4.out (by omega) (by omega) (Nat.le_refl _)).snoc (by omega) (Ps.W.new (by omega) (by omega) i5)
      · simp only at hp'
        rw [Ps.seg_out Ps.srt_len (by omega) (by omega) (.inr hp')]
        exact i5 p (by omega)
    · rename_i hge
      refine ⟨⟨⟨i1, h3⟩, ⟨i3, Nat.le_refl _⟩, hcs, hc.perm i2⟩, ?_⟩
      have hl := Ps.seg_len' (le := le) (l := k) (a := a) (b := l.length) (by omega) (by omega)
      have hr : Ps.Runs le l (Ps.seg (Ps.srt le) k a l.length) 20 0 := by
        refine (i4.out (by omega) (by omega) (Nat.le_refl _)).runs (by omega) ?_
        by_cases c : a = l.length
        · exact .nil (by omega)
        · refine .cons (by omega) ?_ (.nil (by omega))
          rw [hl, Nat.min_eq_right (by omega), i1]
          exact Ps.W.new (by omega) (by omega) i5
      have hpm : (Ps.seg (Ps.srt le) k a l.length).Perm l := (Ps.seg_perm (by omega)).trans i2
      generalize Ps.seg (Ps.srt le) k a l.length = k2 at hl hr hpm
      clear i1 i2 i3 i4 i5 hge
      refine M_loopI (fun s : List Int × Nat => ⟨[(0, .vec 1000 l.length), (1, .int .i64 l.length), (2, .fn g [] cs), (6, .int .i64 s.2)], [(1000, .vec 3 1 (s.1.map eI) 0)]⟩) (fun s => l.length - s.2)
        (fun s => s.1.Perm l ∧ 0 < s.2 ∧ s.2 < 4000000000 ∧ Ps.Runs le l s.1 s.2 0) (k2, 20) ?_ ?_
      · simp +contextual (maxSteps := 5000000) only [go_sem, ↓reduceIte, cl.cv6, cl.rf6, cl.nw6, cl.fz6, cl.cv5, cl.rf5, cl.nw5, cl.fz5, cl.wkL, cl.inOL]
        and_intros
        all_goals first | omega | assumption
      · intro ⟨k, bs⟩ hi
        obtain ⟨i2, i3, i4, i5⟩ := hi
        simp only at i2 i3 i4 i5
        have i1 := i2.length_eq
        simp +contextual (maxSteps := 5000000) only [go_sem, ↓reduceIte, eI_at, eI_set, List.length_set, tn_add, tn_add1, tn_sub, tn_sub1, sh1, sh1b, half_cast, cl.cv6, cl.rf6, cl.nw6, cl.fz6, cl.cv5, cl.rf5, cl.nw5, cl.fz5, cl.wkL, cl.inOL, cm_sm, cm_sm1, hs2, dI_eI]
        simp only [aa, inR_iff]
        split
        · rename_i hbs
          refine ⟨⟨by omega, by omega⟩, ?_⟩
          refine M_loopI (fun s : List Int × Nat => ⟨[(0, .vec 1000 l.length), (1, .int .i64 l.length), (2, .fn g [] cs), (6, .int .i64 bs), (7, .int .i64 s.2), (8, .int .i64 (s.2 + 2 * bs : Nat))], [(1000, .vec 3 1 (s.1.map eI) 0)]⟩) (fun s => l.length - s.2)
            (fun s => s.1.Perm l ∧ s.2 ≤ l.length ∧ Ps.Done le l s.1 (2 * bs) s.2 ∧ Ps.Runs le l s.1 bs s.2) (k, 0) ?_ ?_
          · simp +contextual (maxSteps := 5000000) only [go_sem, ↓reduceIte, cl.cv6, cl.rf6, cl.nw6, cl.fz6, cl.cv5, cl.rf5, cl.nw5, cl.fz5, cl.wkL, cl.inOL]
            and_intros
            all_goals first | omega | assumption | exact Ps.Done.nil
          · intro ⟨k, a⟩ hi
            obtain ⟨j2, j3, j4, j5⟩ := hi
            simp only at j2 j3 j4 j5
            have j1 := j2.length_eq
            simp +contextual (maxSteps := 5000000) only [go_sem, ↓reduceIte, eI_at, eI_set, List.length_set, tn_add, tn_add1, tn_sub, tn_sub1, sh1, sh1b, half_cast, cl.cv6, cl.rf6, cl.nw6, cl.fz6, cl.cv5, cl.rf5, cl.nw5, cl.fz5, cl.wkL, cl.inOL, cm_sm, cm_sm1, hs2, dI_eI]
            simp only [aa, inR_iff]
            split
            · rename_i hab
              obtain ⟨q1, q2, q3, q4⟩ := Ps.step_runs hcl.p i3 j4 j5 (by omega)
              refine ⟨⟨by omega, by omega⟩, ⟨⟨j1, h3⟩, ⟨by omega, by omega, by omega⟩, ⟨hcs, hc.perm j2⟩, q1, q2⟩, ⟨by omega, by omega⟩, ⟨by omega, by omega⟩, ⟨(Ps.seg (Ps.srt le) k a (a + 2 * bs), a + 2 * bs), ⟨⟨rfl, by simp only; omega⟩, rfl⟩, by simp only; omega, (Ps.seg_perm (by omega)).trans j2, hab, q3, q4⟩⟩
            · rename_i hab
              refine ⟨⟨by omega, by omega⟩, ?_⟩
              split
              · rename_i hm
                obtain ⟨q1, q2, q3⟩ := Ps.last_runs hcl.p i3 j4 j5 (by omega) (by omega)
                rw [j1] at q2 q3
                exact ⟨⟨⟨j1, h3⟩, ⟨by omega, by omega, by omega⟩, ⟨hcs, hc.perm j2⟩, q1, q2⟩, ⟨by omega, by omega⟩, ⟨(Ps.seg (Ps.srt le) k a l.length, 2 * bs), ⟨by simp only; omega, rfl⟩, by simp only; omega, (Ps.seg_perm (by omega)).trans j2, by simp only; omega, by simp only; omega, q3⟩⟩
              · rename_i hm
                exact ⟨⟨by omega, by omega⟩, ⟨(k, 2 * bs), ⟨by simp only; omega, rfl⟩, by simp only; omega, j2, by simp only; omega, by simp only; omega, Ps.less_runs i3 j4 j5 (show k.length ≤ a + bs by omega)⟩⟩
        · rename_i hbs
          rw [i5.fin i1 (by omega)]
def cm_sb1 (cm : Int → Int → Int) (le : Int → Int → Bool) (i n : Nat) (m : Int) (g : Nat) (cs : List D) : Option LObj → MS
  | some (.vec e 1 rows 0) => .yes ((e = 3 ∧ rows = (rows.map dI).map eI) ∧ (rows.length = n ∧ m = n ∧ n < 1000000000) ∧ cleanL [.fn g [] cs] = true ∧ CmpOn g cs cm (rows.map dI)) [i] [(i, .vec e 1 ((Ps.srt le (rows.map dI)).map eI) 0)] (.ret (.tup []))
  | _ => .bad
def cm_sb (cm : Int → Int → Int) (le : Int → Int → Bool) (ds : List D) (H : Hp) : MS := match ds with | [.vec i n, .int .i64 m, .fn g [] cs] => cm_sb1 cm le i n m g cs (H i) | _ => .bad
theorem stm_sb {cm : Int → Int → Int} {le : Int → Int → Bool} (hcl : CmpLe cm le) : StMC Try.prog 50 [0] (cm_sb cm le) := by
  intro ds H pre mu o1 out h hp
  unfold cm_sb at h
  split at h
  · rename_i i n m g cs
    unfold cm_sb1 at h
    split at h
    · rename_i e rows hi
      cases h
      obtain ⟨⟨rfl, hr⟩, ⟨rfl, rfl, h3⟩, hcs, hc⟩ := hp
      rw [objs_one hi]
      have := (fcm_stable g cs hcs cm le hcl (rows.map dI) hc rows.length (by simp) h3).one i trivial (by simp [plainO])
      rw [← hr] at this
      simp only [renF, ren1, renLO, renO, renM, ren, renL, sw_l] at this
      exact this
    · cases h
  · cases h
theorem fcm_sortStable (g : Nat) (cs : List D) (hcs : cleanL [.fn g [] cs] = true) (cm : Int → Int → Int) (le : Int → Int → Bool) (hcl : CmpLe cm le) (l : List Int) (hc : CmpOn g cs cm l)
    (n : Nat) (hn : l.length = n) (h3 : n < 1000000000) :
    FCM Try.prog 33 [(true, .vec 1000 n), (false, .fn g [] cs)] [(1000, .vec 3 1 (l.map eI) 0)] [(1000, .vec 3 1 ((Ps.srt le l).map eI) 0)] (.ret (.tup [])) := by
  have cl := clrL_of (cl_fn hcs)
  have hs := stm_sb hcl
  refine fcm_M (fn := Try.f33) (C := (tab [] [(50, [0], cm_sb cm le)])) (rs := []) mixed (by kernel_rfl) (by kernel_rfl) rfl rfl (by kernel_rfl) ?_ ?_
  · simp +contextual (maxSteps := 5000000) only [go_sem, ↓reduceIte]
  simp +contextual (maxSteps := 5000000) only [go_sem, ↓reduceIte, eI_at, eI_set, List.length_set, tn_add, tn_add1, tn_sub, tn_sub1, sh1, sh1b, half_cast, cl.cv6, cl.rf6, cl.nw6, cl.fz6, cl.cv5, cl.rf5, cl.nw5, cl.fz5, cl.wkL, cl.inOL, cm_sb, cm_sb1, hs, dI_eI]
  exact ⟨hn, fun _ => ⟨h3, hcs, hc⟩⟩
def cm_ss1 (cm : Int → Int → Int) (le : Int → Int → Bool) (i n : Nat) (g : Nat) (cs : List D) : Option LObj → MS
  | some (.vec e 1 rows 0) => .yes ((e = 3 ∧ rows = (rows.map dI).map eI) ∧ (rows.length = n ∧ n < 1000000000) ∧ cleanL [.fn g [] cs] = true ∧ CmpOn g cs cm (rows.map dI)) [i] [(i, .vec e 1 ((Ps.srt le (rows.map dI)).map eI) 0)] (.ret (.tup []))
  | _ => .bad
def cm_ss (cm : Int → Int → Int) (le : Int → Int → Bool) (ds : List D) (H : Hp) : MS := match ds with | [.vec i n, .fn g [] cs] => cm_ss1 cm le i n g cs (H i) | _ => .bad
theorem stm_ss {cm : Int → Int → Int} {le : Int → Int → Bool} (hcl : CmpLe cm le) : StMC Try.prog 33 [0] (cm_ss cm le) := by
  intro ds H pre mu o1 out h hp
  unfold cm_ss at h
  split at h
  · rename_i i n g cs
    unfold cm_ss1 at h
    split at h
    · rename_i e rows hi
      cases h
      obtain ⟨⟨rfl, hr⟩, ⟨rfl, h3⟩, hcs, hc⟩ := hp
      rw [objs_one hi]
      have := (fcm_sortStable g cs hcs cm le hcl (rows.map dI) hc rows.length (by simp) h3).one i trivial (by simp [plainO])
      rw [← hr] at this
      simp only [renF, ren1, renLO, renO, renM, ren, renL, sw_l] at this
      exact this
    · cases h
  · cases h
end Go.Proofs.Ytojhjhnmfjdbeaa

set_option linter.unusedSimpArgs false
namespace Go.Proofs.Ytojhjhnmfjdbeaa
open Go.Tn
set_option maxHeartbeats 8000000
set_option maxRecDepth 100000
abbrev T0 : Int × Int × Int := (0, 0, 0)
def cmS (L : List (Int × Int × Int)) (k : Int) (x y : Int) : Int := cmpI (sideF (L.getD x.toNat T0) k) (sideF (L.getD y.toNat T0) k)
def leS (L : List (Int × Int × Int)) (k : Int) (x y : Int) : Bool := decide (sideF (L.getD x.toNat T0) k ≤ sideF (L.getD y.toNat T0) k)
theorem cmpI_neg {a b : Int} : ¬ cmpI a b < 0 ↔ b ≤ a := by unfold cmpI; split <;> (try split) <;> omega
theorem cmpLeS (L : List (Int × Int × Int)) (k : Int) : CmpLe (cmS L k) (leS L k) := by
  refine ⟨fun x y => ?_, ⟨fun a b c h1 h2 => ?_, fun a b => ?_⟩⟩
  · simp only [leS, cmS]
    have := @cmpI_neg (sideF (L.getD y.toNat T0) k) (sideF (L.getD x.toNat T0) k)
    congr 1
    apply propext
    omega
  · simp only [leS, decide_eq_true_eq] at *; omega
  · simp only [leS, decide_eq_true_eq]; omega
def picks (L : List (Int × Int × Int)) (k : Int) (n : Nat) : List Int := ((List.range n).filter fun i => decide (0 ≤ sideF (L.getD i T0) k)).map fun i : Nat => (i : Int)
theorem picks_succ (L : List (Int × Int × Int)) (k : Int) (n : Nat) : picks L k (n + 1) = picks L k n ++ if 0 ≤ sideF (L.getD n T0) k then [(n : Int)] else [] := by
  unfold picks
  rw [List.range_succ, List.filter_append, List.map_append]
  congr 1
  by_cases h : 0 ≤ sideF (L.getD n T0) k
  · rw [if_pos h]; simp only [List.filter_cons, List.filter_nil, h, decide_true, if_true, List.map_cons, List.map_nil]
  · rw [if_neg h]; simp only [List.filter_cons, List.filter_nil, h, decide_false, Bool.false_eq_true, if_false, List.map_nil]
theorem picks_len (L : List (Int × Int × Int)) (k : Int) (n : Nat) : (picks L k n).length ≤ n := by
  unfold picks; rw [List.length_map]; exact Nat.le_trans (List.length_filter_le _ _) (by simp)
theorem picks_mem {L : List (Int × Int × Int)} {k : Int} {n : Nat} {x : Int} (h : x ∈ picks L k n) : ∃ i : Nat, x = i ∧ i < n ∧ 0 ≤ sideF (L.getD i T0) k := by
  unfold picks at h
  obtain ⟨i, hi, rfl⟩ := List.mem_map.1 h
  have := List.mem_filter.1 hi
  exact ⟨i, rfl, by simpa using this.1, by simpa using this.2⟩
def seqF (L : List (Int × Int × Int)) (k : Int) : List Int := if 0 ≤ k ∧ k < 3 then Ps.srt (leS L k) (picks L k L.length) else []
def fnS (k : Int) : Nat := if k = 0 then 30 else if k = 1 then 31 else 32
def c_s4 (L : List (Int × Int × Int)) (k : Int) (caps args : List D) : Prop × Out := match caps, args with | _, [.int .i64 a, .int .i64 b] => (False, .ret (.int .i64 (cmS L k a b))) | _, _ => (False, .ret .any)
theorem fc_Seq (L : List (Int × Int × Int)) (k : Int) (hL : L.length < 1000000000) :
    FC Try.prog 16 [] [.sl 3 (L.map eT), .int .i64 k] (.own 3 1 ((seqF L k).map eI)) := by
  by_cases hk : k < 0 ∨ 3 ≤ k
  · refine fc_M (fn := Try.f16) (C := (tab [] [])) (rs := [4]) mixed (by kernel_rfl) (by kernel_rfl) rfl rfl (by kernel_rfl) (by intro ys h; cases h) ?_
    have : seqF L k = [] := by unfold seqF; rw [if_neg (by omega)]
    rw [this]
    rcases hk with h | h
    · simp +contextual (maxSteps := 5000000) only [go_sem, ↓reduceIte, h, List.range_zero, Nat.mul_one]
    · have h0 : ¬ k < 0 := by omega
      simp +contextual (maxSteps := 5000000) only [go_sem, ↓reduceIte, h, h0, List.range_zero, Nat.mul_one]
  · have hk : k = 0 ∨ k = 1 ∨ k = 2 := by omega
    have e : seqF L k = Ps.srt (leS L k) (picks L k L.length) := by unfold seqF; rw [if_pos (by omega)]
    rw [e]
    clear e
    have hcl := cmpLeS L k
    have hss := stm_ss hcl
    refine fc_M (fn := Try.f16) (C := (tab [(30, c_s1), (31, c_s2), (32, c_s3)] [(33, [0], cm_ss (cmS L k) (leS L k))])) (rs := [4]) mixed (by kernel_rfl) (by kernel_rfl) rfl rfl (by kernel_rfl) (by intro ys h; cases h) ?_
    have hlt : ¬ k < 0 := by omega
    have hge : ¬ 3 ≤ k := by omega
    rcases hk with rfl | rfl | rfl
    · simp +contextual (maxSteps := 5000000) only [go_sem, ↓reduceIte, List.range_zero, Nat.mul_one, Int.reduceLT, Int.reduceLE, Int.reduceToNat, Int.cast_ofNat_Int]
      intro _
      refine M_loopI (fun i : Nat => ⟨[(2, .loc 2 0), (6, .loc 6 0), (7, .vec 34 (picks L 0 i).length), (20, .sl 3 (L.map eT)), (21, .int .i64 L.length), (22, .int .i64 i)], [(2, .blk [.sl 3 (L.map eT)] false), (6, .blk [.fn 30 [] []] false), (34, .vec 3 1 ((picks L 0 i).map eI) 0)]⟩) (fun i => L.length - i) (fun i => i ≤ L.length) 0 ?_ ?_
      · simp +contextual (maxSteps := 5000000) only [go_sem, ↓reduceIte, List.range_zero, Nat.mul_one, picks, List.filter_nil]
        simp
      · intro i hi
        have hs := picks_succ L 0 i
        have hl := picks_len L 0 i
        by_cases hlt : i < L.length
        · have hf : sideF (L.getD i T0) 0 = (L.getD i (0, 0, 0)).1 := rfl
          rw [hf] at hs
          simp +contextual (maxSteps := 5000000) only [go_sem, ↓reduceIte, List.range_zero, Nat.mul_one, eI_at, eI_set, List.length_set, tn_add, tn_add1, tn_sub, tn_sub1, sh1, sh1b, half_cast, hlt, eT_at, c_s1, st_s1]
          simp only [aa, inR_iff]
          split
          · rename_i h
            rw [if_pos h] at hs
            refine ⟨by omega, by omega, i + 1, ⟨⟨by rw [hs]; simp, by simp⟩, by rw [hs]; simp [eI]⟩, by omega, by omega⟩
          · rename_i h
            rw [if_neg h, List.append_nil] at hs
            refine ⟨by omega, i + 1, ⟨⟨by rw [hs], by simp⟩, by rw [hs]⟩, by omega, by omega⟩
        · obtain rfl : i = L.length := by omega
          simp +contextual (maxSteps := 5000000) only [go_sem, ↓reduceIte, List.range_zero, Nat.mul_one, eI_at, eI_set, List.length_set, tn_add, tn_add1, tn_sub, tn_sub1, sh1, sh1b, half_cast, Nat.lt_irrefl, cm_ss, cm_ss1, hss, dI_eI]
          refine ⟨⟨by omega, rfl, by decide, fun x hx y hy => ?_⟩, Ps.srt_len _⟩
          obtain ⟨a, rfl, ha, _⟩ := picks_mem hx
          obtain ⟨b, rfl, hb, _⟩ := picks_mem hy
          exact fc_seq4a L a b ha hb
    · simp +contextual (maxSteps := 5000000) only [go_sem, ↓reduceIte, List.range_zero, Nat.mul_one, Int.reduceLT, Int.reduceLE, Int.reduceToNat, Int.cast_ofNat_Int]
      intro _
      refine M_loopI (fun i : Nat => ⟨[(2, .loc 2 0), (6, .loc 6 0), (7, .vec 34 (picks L 1 i).length), (20, .sl 3 (L.map eT)), (21, .int .i64 L.length), (22, .int .i64 i)], [(2, .blk [.sl 3 (L.map eT)] false), (6, .blk [.fn 31 [] []] false), (34, .vec 3 1 ((picks L 1 i).map eI) 0)]⟩) (fun i => L.length - i) (fun i => i ≤ L.length) 0 ?_ ?_
      · simp +contextual (maxSteps := 5000000) only [go_sem, ↓reduceIte, List.range_zero, Nat.mul_one, picks, List.filter_nil]
        simp
      · intro i hi
        have hs := picks_succ L 1 i
        have hl := picks_len L 1 i
        by_cases hlt : i < L.length
        · have hf : sideF (L.getD i T0) 1 = (L.getD i (0, 0, 0)).2.1 := rfl
          rw [hf] at hs
          simp +contextual (maxSteps := 5000000) only [go_sem, ↓reduceIte, List.range_zero, Nat.mul_one, eI_at, eI_set, List.length_set, tn_add, tn_add1, tn_sub, tn_sub1, sh1, sh1b, half_cast, hlt, eT_at, c_s2, st_s2]
          simp only [aa, inR_iff]
          split
          · rename_i h
            rw [if_pos h] at hs
            refine ⟨by omega, by omega, i + 1, ⟨⟨by rw [hs]; simp, by simp⟩, by rw [hs]; simp [eI]⟩, by omega, by omega⟩
          · rename_i h
            rw [if_neg h, List.append_nil] at hs
            refine ⟨by omega, i + 1, ⟨⟨by rw [hs], by simp⟩, by rw [hs]⟩, by omega, by omega⟩
        · obtain rfl : i = L.length := by omega
          simp +contextual (maxSteps := 5000000) only [go_sem, ↓reduceIte, List.range_zero, Nat.mul_one, eI_at, eI_set, List.length_set, tn_add, tn_add1, tn_sub, tn_sub1, sh1, sh1b, half_cast, Nat.lt_irrefl, cm_ss, cm_ss1, hss, dI_eI]
          refine ⟨⟨by omega, rfl, by decide, fun x hx y hy => ?_⟩, Ps.srt_len _⟩
          obtain ⟨a, rfl, ha, _⟩ := picks_mem hx
          obtain ⟨b, rfl, hb, _⟩ := picks_mem hy
          exact fc_seq4b L a b ha hb
    · simp +contextual (maxSteps := 5000000) only [go_sem, ↓reduceIte, List.range_zero, Nat.mul_one, Int.reduceLT, Int.reduceLE, Int.reduceToNat, Int.cast_ofNat_Int]
      intro _
      refine M_loopI (fun i : Nat => ⟨[(2, .loc 2 0), (6, .loc 6 0), (7, .vec 34 (picks L 2 i).length), (20, .sl 3 (L.map eT)), (21, .int .i64 L.length), (22, .int .i64 i)], [(2, .blk [.sl 3 (L.map eT)] false), (6, .blk [.fn 32 [] []] false), (34, .vec 3 1 ((picks L 2 i).map eI) 0)]⟩) (fun i => L.length - i) (fun i => i ≤ L.length) 0 ?_ ?_
      · simp +contextual (maxSteps := 5000000) only [go_sem, ↓reduceIte, List.range_zero, Nat.mul_one, picks, List.filter_nil]
        simp
      · intro i hi
        have hs := picks_succ L 2 i
        have hl := picks_len L 2 i
        by_cases hlt : i < L.length
        · have hf : sideF (L.getD i T0) 2 = (L.getD i (0, 0, 0)).2.2 := rfl
          rw [hf] at hs
          simp +contextual (maxSteps := 5000000) only [go_sem, ↓reduceIte, List.range_zero, Nat.mul_one, eI_at, eI_set, List.length_set, tn_add, tn_add1, tn_sub, tn_sub1, sh1, sh1b, half_cast, hlt, eT_at, c_s3, st_s3]
          simp only [aa, inR_iff]
          split
          · rename_i h
            rw [if_pos h] at hs
            refine ⟨by omega, by omega, i + 1, ⟨⟨by rw [hs]; simp, by simp⟩, by rw [hs]; simp [eI]⟩, by omega, by omega⟩
          · rename_i h
            rw [if_neg h, List.append_nil] at hs
            refine ⟨by omega, i + 1, ⟨⟨by rw [hs], by simp⟩, by rw [hs]⟩, by omega, by omega⟩
        · obtain rfl : i = L.length := by omega
          simp +contextual (maxSteps := 5000000) only [go_sem, ↓reduceIte, List.range_zero, Nat.mul_one, eI_at, eI_set, List.length_set, tn_add, tn_add1, tn_sub, tn_sub1, sh1, sh1b, half_cast, Nat.lt_irrefl, cm_ss, cm_ss1, hss, dI_eI]
          refine ⟨⟨by omega, rfl, by decide, fun x hx y hy => ?_⟩, Ps.srt_len _⟩
          obtain ⟨a, rfl, ha, _⟩ := picks_mem hx
          obtain ⟨b, rfl, hb, _⟩ := picks_mem hy
          exact fc_seq4c L a b ha hb
end Go.Proofs.Ytojhjhnmfjdbeaa

set_option linter.unusedSimpArgs false
namespace Go.Proofs.Ytojhjhnmfjdbeaa
open Go.Tn
set_option maxHeartbeats 8000000
set_option maxRecDepth 100000

def dbStep (a b : Tab) (la : List Int) (cols : List (Int × Int)) (out : List (Int × Int)) (kb : Int) : List (Int × Int) :=
  match la.find? fun i => !decide (i ∈ out.map (·.1)) && alikeF a b i kb cols with
  | none => out
  | some i => out ++ [(i, kb)]
def dbF (a b : Tab) (la lb : List Int) (cols : List (Int × Int)) : List (Int × Int) := lb.foldl (dbStep a b la cols) []
theorem dbStep_len (a b : Tab) (la : List Int) (cols : List (Int × Int)) (out : List (Int × Int)) (kb : Int) : (dbStep a b la cols out kb).length ≤ out.length + 1 := by
  unfold dbStep; split <;> simp
theorem dbF_take (a b : Tab) (la : List Int) {lb : List Int} (cols : List (Int × Int)) {i : Nat} (h : i < lb.length) : dbF a b la (lb.take (i + 1)) cols = dbStep a b la cols (dbF a b la (lb.take i) cols) (lb.getD i 0) := by
  unfold dbF
  rw [List.take_add_one, List.getElem?_eq_getElem h, List.foldl_append, List.getD_eq_getElem?_getD, List.getElem?_eq_getElem h]; rfl
theorem dbF_len (a b : Tab) (la lb : List Int) (cols : List (Int × Int)) : ∀ i, i ≤ lb.length → (dbF a b la (lb.take i) cols).length ≤ i
  | 0, _ => by simp [dbF]
  | i + 1, h => by
    rw [dbF_take a b la cols (by omega)]
    have := dbF_len a b la lb cols i (by omega)
    have := dbStep_len a b la cols (dbF a b la (lb.take i) cols) (lb.getD i 0)
    omega
theorem fc_rDoubles (a b : Tab) (la lb : List Int) (cols : List (Int × Int)) (hb : lb.length < 1000000000) : FC Try.prog 21 [] [dTab a, dTab b, .sl 1 (la.map eI), .sl 1 (lb.map eI), .sl 2 (cols.map eP)]
    (.own 54 2 ((dbF a b la lb cols).map eP)) := by
  refine fc_M (fn := Try.f21) (C := (tab [(42, c_alike), (23, c_In)] [])) (rs := [10]) mixed (by kernel_rfl) (by kernel_rfl) rfl rfl (by kernel_rfl) (by intro ys h; cases h) ?_
  simp +contextual (maxSteps := 5000000) only [go_sem, ↓reduceIte]
  refine M_loopI (fun n : Nat => ⟨[(2, .sl 1 (la.map eI)), (3, .sl 1 (lb.map eI)), (4, .sl 2 (cols.map eP)), (5, .loc 5 0), (6, .loc 6 0), (11, .vec 70 (dbF a b la (lb.take n) cols).length), (12, .vec 58 (dbF a b la (lb.take n) cols).length), (13, .int .i64 n)],
    [(5, .blk [.sl 1 (a.1.map eS), .sl 1 (a.2.map eR)] false), (6, .blk [.sl 1 (b.1.map eS), .sl 1 (b.2.map eR)] false), (70, .vec 54 2 ((dbF a b la (lb.take n) cols).map eP) 0), (58, .vec 3 1 (((dbF a b la (lb.take n) cols).map (·.1)).map eI) 0)]⟩) (fun n => lb.length - n) (fun n => n ≤ lb.length) 0 ?_ ?_
  · simp +contextual (maxSteps := 5000000) only [go_sem, ↓reduceIte, dbF, List.foldl_nil]
    rfl
  · intro n hn
    have hlen := dbF_len a b la lb cols n hn
    by_cases hlt : n < lb.length
    · have hstep := dbF_take a b la cols hlt
      generalize hO : dbF a b la (lb.take n) cols = O at *
      simp +contextual (maxSteps := 5000000) only [go_sem, ↓reduceIte, hlt, hO]
      intro _
      refine M_loopI (fun i : Nat => ⟨[(2, .sl 1 (la.map eI)), (3, .sl 1 (lb.map eI)), (4, .sl 2 (cols.map eP)), (5, .loc 5 0), (6, .loc 6 0), (11, .vec 70 O.length), (12, .vec 58 O.length), (13, .int .i64 n), (14, .int .i64 i)],
        [(5, .blk [.sl 1 (a.1.map eS), .sl 1 (a.2.map eR)] false), (6, .blk [.sl 1 (b.1.map eS), .sl 1 (b.2.map eR)] false), (70, .vec 54 2 (O.map eP) 0), (58, .vec 3 1 ((O.map (·.1)).map eI) 0)]⟩) (fun i => la.length - i)
          (fun i => i ≤ la.length ∧ (la.take i).find? (fun i => !decide (i ∈ O.map (·.1)) && alikeF a b i (lb.getD n 0) cols) = none) 0 ?_ ?_
      · simp +contextual (maxSteps := 5000000) only [go_sem, ↓reduceIte]
        exact ⟨rfl, rfl⟩
      · intro i hi
        obtain ⟨hi, hf⟩ := hi
        by_cases hil : i < la.length
        · simp +contextual (maxSteps := 5000000) only [go_sem, ↓reduceIte, hlt, hil, eI_at, c_In, st_In, c_alike, st_alike, dI_eI, dP_eP, dS_eS, dR_eR]
          simp only [aa, inR_iff]
          intro _
          have hpre : la = la.take i ++ la.getD i 0 :: la.drop (i + 1) := by rw [← drop_cons hil, List.take_append_drop]
          have hnext : ∀ (hq : (!decide (la.getD i 0 ∈ O.map (·.1)) && alikeF a b (la.getD i 0) (lb.getD n 0) cols) = false), (la.take (i + 1)).find? (fun i => !decide (i ∈ O.map (·.1)) && alikeF a b i (lb.getD n 0) cols) = none := fun hq => by
            rw [List.take_add_one, List.getElem?_eq_getElem hil, List.find?_append, hf]
            rw [List.getD_eq_getElem?_getD, List.getElem?_eq_getElem hil] at hq
            simp only [Option.toList_some, Option.none_or, List.find?_cons]
            simp only [Option.getD_some] at hq
            rw [hq]; rfl
          split
          · rename_i h1
            split
            · rename_i h2
              have hnew : dbF a b la (lb.take (n + 1)) cols = O ++ [(la.getD i 0, lb.getD n 0)] := by
                rw [hstep]
                unfold dbStep
                have : la.find? (fun i => !decide (i ∈ O.map (·.1)) && alikeF a b i (lb.getD n 0) cols) = some (la.getD i 0) := by
                  refine (congrArg (List.find? _) hpre).trans ?_
                  rw [List.find?_append, hf, Option.none_or]
                  simp only [List.find?_cons]
                  rw [decide_eq_false h1, show alikeF a b (la.getD i 0) (lb.getD n 0) cols = true from h2]; rfl
                rw [this]
              exact ⟨by omega, ⟨by omega, by omega⟩, n + 1, ⟨⟨by rw [hnew]; simp, by rw [hnew]; simp, by simp⟩, by rw [hnew, List.map_append]; rfl, by rw [hnew, List.map_append, List.map_append]; rfl⟩, by omega, by omega⟩
            · rename_i h2
              exact ⟨by omega, i + 1, by simp, by omega, by omega, hnext (by rw [show alikeF a b (la.getD i 0) (lb.getD n 0) cols = false from by simpa using h2]; simp)⟩
          · rename_i h1
            exact ⟨by omega, i + 1, by simp, by omega, by omega, hnext (by rw [decide_eq_true (Classical.not_not.1 h1)]; simp)⟩
        · have hnew : dbF a b la (lb.take (n + 1)) cols = O := by
            rw [hstep]
            unfold dbStep
            rw [List.take_of_length_le (by omega)] at hf
            rw [hf]
          simp +contextual (maxSteps := 5000000) only [go_sem, ↓reduceIte, hil]
          exact fun _ => ⟨inR64 (by omega) (by omega), fun _ => ⟨n + 1, ⟨⟨by rw [hnew], by rw [hnew], by simp⟩, by rw [hnew], by rw [hnew]⟩, by omega, by omega⟩⟩
    · simp +contextual (maxSteps := 5000000) only [go_sem, ↓reduceIte, hlt]
      intro _
      rw [List.take_of_length_le (by omega)]
end Go.Proofs.Ytojhjhnmfjdbeaa

set_option linter.unusedSimpArgs false
namespace Go.Proofs.Ytojhjhnmfjdbeaa
open Go.Tn
set_option maxHeartbeats 8000000
set_option maxRecDepth 100000

theorem ask_eq {a b : Tab} {k : Int} {O cols : List (Int × Int)} (hc : cols ≠ []) (i : Int) : askF a b k (ctM (O.map (·.1))) cols i = (!decide (i ∈ O.map (·.1)) && alikeF a b i k cols) := by
  unfold askF
  have h1 : decide (mlk (ctM (O.map (·.1))) i = 0) = !decide (i ∈ O.map (·.1)) := by
    rw [decide_eq_decide.2 (ct_nn i (O.map (·.1))).2.2, decide_not]
  have h2 : (!cols.any (oddF a b i k)) = alikeF a b i k cols := by
    unfold alikeF
    cases h : cols.any (oddF a b i k)
    · refine (decide_eq_true ⟨hc, fun c hm => ?_⟩).symm
      have := List.any_eq_false.1 h c hm
      unfold oddF at this
      simpa using this
    · refine (decide_eq_false fun ⟨_, h'⟩ => ?_).symm
      obtain ⟨c, hm, hx⟩ := List.any_eq_true.1 h
      unfold oddF at hx
      rw [decide_eq_true (h' c hm)] at hx
      cases hx
  rw [h1, h2]
theorem fidx_find {α : Type} {q : α → Bool} {d : α} : ∀ (l : List α) (k : Nat), (l.find? q = none ∧ fidx q l k = -1) ∨ ∃ i, i < l.length ∧ l.find? q = some (l.getD i d) ∧ fidx q l k = (k + i : Nat)
  | [], _ => .inl ⟨rfl, rfl⟩
  | x :: l, k => by
    by_cases hq : q x = true
    · exact .inr ⟨0, by simp, by simp [List.find?_cons, hq], by simp [fidx, hq]⟩
    · have hq : q x = false := by simpa using hq
      rcases fidx_find (q := q) (d := d) l (k + 1) with ⟨h1, h2⟩ | ⟨i, hi, h1, h2⟩
      · exact .inl ⟨by simp [List.find?_cons, hq, h1], by simp [fidx, hq, h2]⟩
      · exact .inr ⟨i + 1, by simpa using hi, by simp only [List.find?_cons, hq, h1]; rfl, by simp only [fidx, hq, Bool.false_eq_true, if_false, h2]; congr 1; omega⟩
theorem alike_nil {a b : Tab} {i k : Int} : alikeF a b i k [] = false := by simp [alikeF]
theorem dbF_nil (a b : Tab) (la lb : List Int) : dbF a b la lb [] = [] := by
  unfold dbF
  induction lb with
  | nil => rfl
  | cons x lb ih =>
    have : dbStep a b la [] [] x = [] := by
      unfold dbStep
      have : la.find? (fun i => !decide (i ∈ ([] : List (Int × Int)).map (·.1)) && alikeF a b i x []) = none := List.find?_eq_none.2 fun y _ => by simp [alike_nil]
      rw [this]
    rw [List.foldl_cons, this]; exact ih
theorem fc_Doubles (a b : Tab) (la lb : List Int) (cols : List (Int × Int)) (ha : la.length < 1000000000) (hb : lb.length < 1000000000) (hc : cols.length < 1000000000) :
    FC Try.prog 20 [] [dTab a, dTab b, .sl 1 (la.map eI), .sl 1 (lb.map eI), .sl 2 (cols.map eP)] (.own 54 2 ((dbF a b la lb cols).map eP)) := by
  refine fc_M (fn := Try.f20) (C := (tab [(38, c_ixD)] [])) (rs := [10]) mixed (by kernel_rfl) (by kernel_rfl) rfl rfl (by kernel_rfl) (by intro ys h; cases h) ?_
  by_cases h0 : cols = []
  · subst h0
    rw [dbF_nil]
    simp +contextual (maxSteps := 5000000) only [go_sem, ↓reduceIte, Int.reduceLT, Int.reduceLE, Int.reduceToNat, Int.cast_ofNat_Int]
  · have hpos : 0 < cols.length := List.length_pos_iff.2 h0
    have hz : ¬ cols.length = 0 := by omega
    have hz2 : ¬ (cols.length : Int) = 0 := by omega
    simp +contextual (maxSteps := 5000000) only [go_sem, ↓reduceIte, hz, hz2]
    intro _ _
    refine M_loopI (fun n : Nat => ⟨[(2, .sl 1 (la.map eI)), (5, .loc 5 0), (6, .loc 6 0), (9, .loc 9 0), (11, .loc 11 0), (12, .vec 46 (dbF a b la (lb.take n) cols).length), (20, .sl 1 (lb.map eI)), (21, .int .i64 lb.length), (22, .int .i64 n)],
      [(5, .blk [.sl 1 (a.1.map eS), .sl 1 (a.2.map eR)] false), (6, .blk [.sl 1 (b.1.map eS), .sl 1 (b.2.map eR)] false), (9, .blk [.sl 2 (cols.map eP)] false), (11, .blk [.lmap 19] false),
       (19, .mp ((ctM ((dbF a b la (lb.take n) cols).map (·.1))).map kI) ((ctM ((dbF a b la (lb.take n) cols).map (·.1))).map vI) false), (46, .vec 54 2 ((dbF a b la (lb.take n) cols).map eP) 0)]⟩) (fun n => lb.length - n) (fun n => n ≤ lb.length) 0 ?_ ?_
    · simp +contextual (maxSteps := 5000000) only [go_sem, ↓reduceIte, dbF, ctM, List.foldl_nil]
      rfl
    · intro n hn
      have hlen := dbF_len a b la lb cols n hn
      by_cases hlt : n < lb.length
      · have hstep := dbF_take a b la cols hlt
        generalize hO : dbF a b la (lb.take n) cols = O at *
        have hfun : askF a b (lb.getD n 0) (ctM (O.map (·.1))) cols = fun i => !decide (i ∈ O.map (·.1)) && alikeF a b i (lb.getD n 0) cols := funext fun i => ask_eq h0 i
        rcases fidx_find (q := askF a b (lb.getD n 0) (ctM (O.map (·.1))) cols) (d := 0) la 0 with ⟨h1, h2⟩ | ⟨i, hi, h1, h2⟩
        · have hnew : dbF a b la (lb.take (n + 1)) cols = O := by
            rw [hfun] at h1
            rw [hstep]; unfold dbStep; rw [h1]
          simp +contextual (maxSteps := 5000000) only [go_sem, ↓reduceIte, hlt, eI_at, c_ixD, st_ixD, dI_eI, dP_eP, dS_eS, dR_eR, dM_eM, hO, h2, Int.reduceLT, Int.reduceLE, Int.reduceToNat, Int.cast_ofNat_Int]
          simp only [aa, inR_iff]
          exact ⟨⟨ha, hc⟩, by omega, n + 1, ⟨⟨by rw [hnew], by simp⟩, ⟨by rw [hnew], by rw [hnew]⟩, by rw [hnew]⟩, by omega, by omega⟩
        · have hnew : dbF a b la (lb.take (n + 1)) cols = O ++ [(la.getD i 0, lb.getD n 0)] := by
            rw [hfun] at h1
            rw [hstep]; unfold dbStep; rw [h1]
          have hct := ct_nn (la.getD i 0) (O.map (·.1))
          rw [List.length_map] at hct
          have hup := ctM_app (O.map (·.1)) (la.getD i 0)
          simp +contextual (maxSteps := 5000000) only [go_sem, ↓reduceIte, hlt, hi, eI_at, c_ixD, st_ixD, dI_eI, dP_eP, dS_eS, dR_eR, dM_eM, hO, h2]
          simp only [aa, inR_iff]
          have hmn : dbF a b la (lb.take (n + 1)) cols = O ++ [(la.getD i 0, lb.getD n 0)] := hnew
          have hmm : (dbF a b la (lb.take (n + 1)) cols).map (·.1) = O.map (·.1) ++ [la.getD i 0] := by rw [hmn, List.map_append]; rfl
          exact ⟨⟨ha, hc⟩, by omega, by omega, by omega, n + 1, ⟨⟨by rw [hmn]; simp, by simp⟩, ⟨by rw [hmm, hup], by rw [hmm, hup]⟩, by rw [hmn, List.map_append]; rfl⟩, by omega, by omega⟩
      · simp +contextual (maxSteps := 5000000) only [go_sem, ↓reduceIte, hlt]
        rw [List.take_of_length_le (by omega)]
end Go.Proofs.Ytojhjhnmfjdbeaa

set_option linter.unusedSimpArgs false
namespace Go.Proofs.Ytojhjhnmfjdbeaa
open Go.Tn
set_option maxHeartbeats 8000000
set_option maxRecDepth 100000
theorem fc_of (l : List (Int × Int × Int)) (hl : l.length < 1000000000) : FC Try.prog 14 [] [.sl 3 (l.map eT)] (.own 51 3 (l.map eT)) := by
  refine fc_M (fn := Try.f14) (C := (tab [] [])) (rs := [2]) mixed (by kernel_rfl) (by kernel_rfl) rfl rfl (by kernel_rfl) (by intro ys h; cases h) ?_
  simp +contextual (maxSteps := 5000000) only [go_sem, ↓reduceIte]
  refine M_loopI (fun i : Nat => ⟨[(0, .sl 3 (l.map eT)), (3, .vec 29 i), (4, .int .i64 i)], [(29, .vec 51 3 ((l.take i).map eT) 0)]⟩) (fun i => l.length - i) (fun i => i ≤ l.length) 0 ?_ ?_
  · simp +contextual (maxSteps := 5000000) only [go_sem, ↓reduceIte]
    simp
  · intro i hi
    by_cases hlt : i < l.length
    · simp +contextual (maxSteps := 5000000) only [go_sem, ↓reduceIte, hlt, eT_at]
      intro _
      refine ⟨⟨by omega, by omega⟩, fun _ => ⟨inR64 (by omega) (by omega), fun _ => ⟨i + 1, ⟨⟨rfl, by simp⟩, take_map_succ eT (0, 0, 0) l i hlt⟩, by omega, by omega⟩⟩⟩
    · simp +contextual (maxSteps := 5000000) only [go_sem, ↓reduceIte, hlt]
      intro _
      rw [List.take_of_length_le (by omega)]
      exact ⟨rfl, by omega⟩
theorem fc_few (p0 p1 p2 : List (Int × Int)) (n0 n1 n2 : Int) : FC Try.prog 10 [] [.agg [.sl 2 (p0.map eP), .sl 2 (p1.map eP), .sl 2 (p2.map eP), .int .i64 n0, .int .i64 n1, .int .i64 n2]]
    (.ret (.bool (decide (p0.length ≤ 40 ∧ p1.length ≤ 40 ∧ p2.length ≤ 40 ∧ n0 ≤ 40 ∧ n1 ≤ 40 ∧ n2 ≤ 40)))) := by
  refine fc_M (fn := Try.f10) (C := (tab [] [])) (rs := [2]) mixed (by kernel_rfl) (by kernel_rfl) rfl rfl (by kernel_rfl) (by intro ys h; cases h) ?_
  simp +contextual (maxSteps := 5000000) only [go_sem, ↓reduceIte]
  intro _
  split
  · intro _
    split
    · intro _
      split
      · intro h3 h4
        congr 1
        apply propext
        exact ⟨fun h => ⟨by omega, by omega, by omega, h⟩, fun h => h.2.2.2⟩
      · exact (decide_eq_false (by omega)).symm
    · exact (decide_eq_false (by omega)).symm
  · exact (decide_eq_false (by omega)).symm
end Go.Proofs.Ytojhjhnmfjdbeaa

set_option linter.unusedSimpArgs false
namespace Go.Proofs.Ytojhjhnmfjdbeaa
open Go.Tn
set_option maxHeartbeats 8000000
set_option maxRecDepth 100000

def okP (d : D) : Prop := match d with | .sl 2 rows => rows = (rows.map dP).map eP | .nil => True | _ => False
def pP (d : D) : List (Int × Int) := match d with | .sl 2 rows => rows.map dP | _ => []
theorem okP_wk {d : D} (h : okP d) : wk d (.sl 2 ((pP d).map eP)) := by
  unfold okP at h
  split at h
  · simp only [pP]; rw [← h]; simp [wk]
  · simp [pP, wk]
  · exact h.elim
def c_Trios (caps args : List D) : Prop × Out := match caps, args with
  | [], [a0, a1, a2, .int .i64 n0, .int .i64 n1, .int .i64 n2] => ((okP a0 ∧ okP a1 ∧ okP a2) ∧ (n0 < 1000000000 ∧ n1 < 1000000000 ∧ n2 < 1000000000) ∧ ((pP a0).length < 1000000000 ∧ (pP a1).length < 1000000000 ∧ (pP a2).length < 1000000000), .ret (trOut (pP a0) (pP a1) (pP a2) n0 n1 n2))
  | _, _ => (False, .ret .any)
theorem st_Trios : StC Try.prog 11 c_Trios := by
  intro caps args; unfold c_Trios; split
  · rename_i a0 a1 a2 n0 n1 n2
    rintro ⟨⟨h0, h1, h2⟩, ⟨b0, b1, b2⟩, l0, l1, l2⟩
    refine fc_wk (wkL_self []) ?_ (by intro ys h; cases h) (fc_Trios (pP a0) (pP a1) (pP a2) n0 n1 n2 b0 b1 b2 l0 l1 l2)
    simp only [wkL]
    exact ⟨okP_wk h0, okP_wk h1, okP_wk h2, wk_self _, wk_self _, wk_self _, trivial⟩
  · exact fun h => h.elim
noncomputable def c_rTrios (caps args : List D) : Prop × Out := match caps, args with
  | [], [a0, a1, a2, .int .i64 n0, .int .i64 n1, .int .i64 n2] => ((okP a0 ∧ okP a1 ∧ okP a2) ∧ (n0 < 1000000000 ∧ n1 < 1000000000 ∧ n2 < 1000000000), .ret (rtOut (pP a0) (pP a1) (pP a2) n0 n1 n2))
  | _, _ => (False, .ret .any)
theorem st_rTrios : StC Try.prog 12 c_rTrios := by
  intro caps args; unfold c_rTrios; split
  · rename_i a0 a1 a2 n0 n1 n2
    rintro ⟨⟨h0, h1, h2⟩, ⟨b0, b1, b2⟩⟩
    refine fc_wk (wkL_self []) ?_ (by intro ys h; cases h) (fc_rTrios (pP a0) (pP a1) (pP a2) n0 n1 n2 b0 b1 b2)
    simp only [wkL]
    exact ⟨okP_wk h0, okP_wk h1, okP_wk h2, wk_self _, wk_self _, wk_self _, trivial⟩
  · exact fun h => h.elim
def okT (d : D) : Prop := match d with | .sl 3 rows => rows = (rows.map dT).map eT | .nil => True | _ => False
def pT (d : D) : List (Int × Int × Int) := match d with | .sl 3 rows => rows.map dT | _ => []
theorem okT_wk {d : D} (h : okT d) : wk d (.sl 3 ((pT d).map eT)) := by
  unfold okT at h
  split at h
  · simp only [pT]; rw [← h]; simp [wk]
  · simp [pT, wk]
  · exact h.elim
def c_of (caps args : List D) : Prop × Out := match caps, args with
  | [], [a] => (okT a ∧ (pT a).length < 1000000000, .own 51 3 ((pT a).map eT))
  | _, _ => (False, .ret .any)
theorem st_of : StC Try.prog 14 c_of := by
  intro caps args; unfold c_of; split
  · rename_i a
    rintro ⟨h, hl⟩
    refine fc_wk (wkL_self []) ?_ (by intro ys h; cases h) (fc_of (pT a) hl)
    simp only [wkL]
    exact ⟨okT_wk h, trivial⟩
  · exact fun h => h.elim
def c_rSame (caps args : List D) : Prop × Out := match caps, args with
  | [], [a, b] => (okT a ∧ okT b, .ret (.bool (decide (pT a = pT b))))
  | _, _ => (False, .ret .any)
theorem st_rSame : StC Try.prog 13 c_rSame := by
  intro caps args; unfold c_rSame; split
  · rename_i a b
    rintro ⟨h1, h2⟩
    refine fc_wk (wkL_self []) ?_ (by intro ys h; cases h) (fc_rSame (pT a) (pT b))
    simp only [wkL]
    exact ⟨okT_wk h1, okT_wk h2, trivial⟩
  · exact fun h => h.elim
def c_Seq (caps args : List D) : Prop × Out := match caps, args with
  | [], [a, .int .i64 k] => (okT a ∧ (pT a).length < 1000000000, .own 3 1 ((seqF (pT a) k).map eI))
  | _, _ => (False, .ret .any)
theorem st_Seq : StC Try.prog 16 c_Seq := by
  intro caps args; unfold c_Seq; split
  · rename_i a k
    rintro ⟨h, hl⟩
    refine fc_wk (wkL_self []) ?_ (by intro ys h; cases h) (fc_Seq (pT a) k hl)
    simp only [wkL]
    exact ⟨okT_wk h, wk_self _, trivial⟩
  · exact fun h => h.elim
def c_few (caps args : List D) : Prop × Out := match caps, args with
  | [], [.agg [.sl 2 r0, .sl 2 r1, .sl 2 r2, .int .i64 n0, .int .i64 n1, .int .i64 n2]] => (r0 = (r0.map dP).map eP ∧ r1 = (r1.map dP).map eP ∧ r2 = (r2.map dP).map eP,
      .ret (.bool (decide ((r0.map dP).length ≤ 40 ∧ (r1.map dP).length ≤ 40 ∧ (r2.map dP).length ≤ 40 ∧ n0 ≤ 40 ∧ n1 ≤ 40 ∧ n2 ≤ 40))))
  | _, _ => (False, .ret .any)
theorem st_few : StC Try.prog 10 c_few := by
  intro caps args; unfold c_few; split
  · rename_i r0 r1 r2 n0 n1 n2
    rintro ⟨h0, h1, h2⟩
    have := fc_few (r0.map dP) (r1.map dP) (r2.map dP) n0 n1 n2
    rw [← h0, ← h1, ← h2] at this
    exact this
  · exact fun h => h.elim
def c_Doubles (caps args : List D) : Prop × Out := match caps, args with
  | [], [.agg [.sl 1 ha, .sl 1 ra], .agg [.sl 1 hb, .sl 1 rb], .sl 1 la, .sl 1 lb, .sl 2 cs] =>
    ((la = (la.map dI).map eI ∧ lb = (lb.map dI).map eI ∧ cs = (cs.map dP).map eP) ∧ (ha = (ha.map dS).map eS ∧ ra = (ra.map dR).map eR) ∧ (hb = (hb.map dS).map eS ∧ rb = (rb.map dR).map eR) ∧ (la.length < 1000000000 ∧ lb.length < 1000000000 ∧ cs.length < 1000000000),
      .own 54 2 ((dbF (ha.map dS, ra.map dR) (hb.map dS, rb.map dR) (la.map dI) (lb.map dI) (cs.map dP)).map eP))
  | _, _ => (False, .ret .any)
theorem st_Doubles : StC Try.prog 20 c_Doubles := by
  intro caps args; unfold c_Doubles; split
  · rename_i ha ra hb rb la lb cs
    rintro ⟨⟨h1, h2, h3⟩, ⟨h4, h5⟩, ⟨h6, h7⟩, l1, l2, l3⟩
    have := fc_Doubles (ha.map dS, ra.map dR) (hb.map dS, rb.map dR) (la.map dI) (lb.map dI) (cs.map dP) (by simpa using l1) (by simpa using l2) (by simpa using l3)
    simp only [dTab] at this
    rw [← h1, ← h2, ← h3, ← h4, ← h5, ← h6, ← h7] at this
    exact this
  · exact fun h => h.elim
theorem w1 : trOut [(0, 0)] [(0, 0)] [] 1 1 1 = .tup [.sl 3 [[.int .i64 0, .int .i64 0, .int .i64 0]], .int .i64 0] := by
  unfold trOut
  rw [if_neg (by decide +kernel), if_neg (by decide +kernel), if_neg (by decide +kernel), show trL [(0, 0)] [(0, 0)] [] 1 1 1 = [(0, 0, 0)] by decide +kernel]; rfl
theorem w2 : trOut [] [] [(0, 0)] 0 1 1 = .tup [.sl 3 [[.int .i64 (-1), .int .i64 0, .int .i64 0]], .int .i64 0] := by
  unfold trOut
  rw [if_neg (by decide +kernel), if_neg (by decide +kernel), if_neg (by decide +kernel), show trL [] [] [(0, 0)] 0 1 1 = [(-1, 0, 0)] by decide +kernel]; rfl
theorem w3 : trOut [(0, 0)] [] [] 0 1 1 = .tup [.nil, .int .i64 11] := by
  unfold trOut
  rw [if_pos (by decide +kernel), show chk [(0, 0)] 0 1 = 11 by decide +kernel]
theorem w4 : seqF [(-1, 0, 0)] 0 = [] := by
  unfold seqF
  rw [if_pos (by decide), show picks [(-1, 0, 0)] 0 (List.length [((-1 : Int), (0 : Int), (0 : Int))]) = [] by decide +kernel]; simp [Ps.srt]
theorem w5 : seqF [(-1, 0, 0)] 1 = [0] := by
  unfold seqF
  rw [if_pos (by decide), show picks [(-1, 0, 0)] 1 (List.length [((-1 : Int), (0 : Int), (0 : Int))]) = [0] by decide +kernel]; simp [Ps.srt]
theorem w6 : dbF ([[97]], [[[120]]]) ([[97]], [[[120]]]) [0] [0] [(0, 0)] = [(0, 0)] := by decide +kernel
theorem fc_works : FC Try.prog 9 [] [] (.ret (.bool true)) := by
  refine fc_M (fn := Try.f9) (C := (tab [(11, c_Trios), (20, c_Doubles), (16, c_Seq)] [] [5004, 5006])) (rs := [0]) mixed (by kernel_rfl) (by kernel_rfl) rfl rfl (by kernel_rfl) (by intro ys h; cases h) ?_
  have d1 : dP [.int .i64 0, .int .i64 0] = (0, 0) := rfl
  have e1 : eP (0, 0) = [.int .i64 0, .int .i64 0] := rfl
  have d2 : dI [.int .i64 0] = 0 := rfl
  have e2 : eI 0 = [.int .i64 0] := rfl
  have d3 : ∀ s, dS [.str s] = s := fun _ => rfl
  have e3 : ∀ s, eS s = [.str s] := fun _ => rfl
  have d4 : dR [.sl 1 [[.str [120]]]] = [[120]] := rfl
  have e4 : eR [[120]] = [.sl 1 [[.str [120]]]] := rfl
  have d5 : dT [.int .i64 (-1), .int .i64 0, .int .i64 0] = (-1, 0, 0) := rfl
  have e5 : eT (-1, 0, 0) = [.int .i64 (-1), .int .i64 0, .int .i64 0] := rfl
  simp +contextual (maxSteps := 5000000) only [go_sem, ↓reduceIte, c_Trios, st_Trios, okP, pP, d1, e1, w1, w2, w3, Int.reduceLT, Int.reduceLE, Int.reduceToNat, Int.cast_ofNat_Int]
  refine M_join (fun _ : Unit => ⟨[(1, .vec 11 1), (2, .sl 3 [[.int .i64 0, .int .i64 0, .int .i64 0]]), (3, .int .i64 0), (4, .sl 3 [[.int .i64 (-1), .int .i64 0, .int .i64 0]]), (5, .int .i64 0), (7, .int .i64 11)], [(11, .vec 54 2 [[.int .i64 0, .int .i64 0]] 1)]⟩) (fun _ => True) ?_ ?_
  · simp +contextual (maxSteps := 5000000) only [go_sem, ↓reduceIte, c_Trios, st_Trios, okP, pP, d1, e1, w1, w2, w3, Int.reduceLT, Int.reduceLE, Int.reduceToNat, Int.cast_ofNat_Int]
    exact ⟨(), trivial⟩
  · intro _ _
    simp +contextual (maxSteps := 5000000) only [go_sem, ↓reduceIte, c_Doubles, st_Doubles, d1, e1, d2, e2, d3, e3, d4, e4, w6, Int.reduceLT, Int.reduceLE, Int.reduceToNat, Int.cast_ofNat_Int]
    refine M_join (fun _ : Unit => ⟨[(2, .sl 3 [[.int .i64 0, .int .i64 0, .int .i64 0]]), (3, .int .i64 0), (4, .sl 3 [[.int .i64 (-1), .int .i64 0, .int .i64 0]]), (5, .int .i64 0), (7, .int .i64 11), (9, .vec 37 1)], [(37, .vec 54 2 [[.int .i64 0, .int .i64 0]] 0)]⟩) (fun _ => True) ?_ ?_
    · simp +contextual (maxSteps := 5000000) only [go_sem, ↓reduceIte, c_Doubles, st_Doubles, d1, e1, d2, e2, d3, e3, d4, e4, w6, Int.reduceLT, Int.reduceLE, Int.reduceToNat, Int.cast_ofNat_Int]
      exact ⟨(), trivial⟩
    · intro _ _
      simp +contextual (maxSteps := 5000000) only [go_sem, ↓reduceIte, c_Seq, st_Seq, okT, pT, d5, e5, w4, w5, Int.reduceLT, Int.reduceLE, Int.reduceToNat, Int.cast_ofNat_Int]
end Go.Proofs.Ytojhjhnmfjdbeaa

set_option linter.unusedSimpArgs false
namespace Go.Proofs.Ytojhjhnmfjdbeaa
open Go.Tn
set_option maxHeartbeats 8000000
set_option maxRecDepth 100000

def idS (b : Bool) : Nat := match b with | true => 2047 | false => 47
def c_side (caps args : List D) : Prop × Out := match caps, args with | [], [.agg [.int .i64 a, .int .i64 b, .int .i64 c], .int .i64 k] => (True, .ret (.int .i64 (sideF (a, b, c) k))) | _, _ => (False, .ret .any)
theorem st_side : StC Try.prog 22 c_side := by
  intro caps args; unfold c_side; split
  · exact fun _ => fc_Side (_, _, _) _
  · exact fun h => h.elim
def srtP (L : List (Int × Int × Int)) (k : Int) (n : Nat) : List Int := Ps.srt (leS L k) (picks L k n)
theorem srtP_len (L : List (Int × Int × Int)) (k : Int) (n : Nat) : (srtP L k n).length ≤ n := by
  unfold srtP; rw [Ps.srt_len]; exact picks_len L k n
def insP (le : Int → Int → Bool) (S : List Int) (x : Int) : Nat → Nat
  | 0 => 0
  | j + 1 => if le (S.getD j 0) x = true then j + 1 else insP le S x j
theorem insP_le {le : Int → Int → Bool} {S : List Int} {x : Int} : ∀ j, insP le S x j ≤ j
  | 0 => Nat.le_refl _
  | j + 1 => by
    have := @insP_le le S x j
    simp only [insP]; split <;> omega
theorem insP_no {le : Int → Int → Bool} {S : List Int} {x : Int} : ∀ j i, insP le S x j ≤ i → i < j → le (S.getD i 0) x = false
  | 0, i, _, h => by omega
  | j + 1, i, h1, h2 => by
    simp only [insP] at h1
    split at h1
    · omega
    · rename_i hn
      by_cases e : i = j
      · subst e; simpa using hn
      · exact insP_no j i h1 (by omega)
theorem insP_yes {le : Int → Int → Bool} {S : List Int} {x : Int} : ∀ j, 0 < insP le S x j → le (S.getD (insP le S x j - 1) 0) x = true
  | 0, h => by simp [insP] at h
  | j + 1, h => by
    simp only [insP] at h ⊢
    split at h
    · rename_i hy
      rw [if_pos hy]; exact hy
    · rename_i hn
      rw [if_neg hn]; exact insP_yes j h
theorem ins_eq {le : Int → Int → Bool} (h : Ps.Pre le) (X : List Int) (x : Int) :
    Ps.srt le (X ++ [x]) = (Ps.srt le X).take (insP le (Ps.srt le X) x (Ps.srt le X).length) ++ [x] ++ (Ps.srt le X).drop (insP le (Ps.srt le X) x (Ps.srt le X).length) := by
  have hx : Ps.srt le [x] = [x] := Ps.srt_id (by simp)
  rw [← Ps.srt_app h X [x], hx]
  have hS := Ps.srt_sorted h X
  generalize Ps.srt le X = S at *
  have hle := @insP_le le S x S.length
  have hno := @insP_no le S x S.length
  have hys := @insP_yes le S x S.length
  generalize insP le S x S.length = kk at *
  have hget := List.pairwise_iff_getElem.1 hS
  have mt : ∀ y ∈ S.take kk, ∃ i, ∃ hi : i < S.length, i < kk ∧ y = S[i] := fun y hy => by
    obtain ⟨i, hi, rfl⟩ := List.getElem_of_mem hy
    have hi' : i < kk ∧ i < S.length := by simp at hi; omega
    exact ⟨i, hi'.2, hi'.1, by simp⟩
  have md : ∀ y ∈ S.drop kk, ∃ i, ∃ hi : i < S.length, kk ≤ i ∧ y = S[i] := fun y hy => by
    obtain ⟨i, hi, rfl⟩ := List.getElem_of_mem hy
    have hi' : kk + i < S.length := by simp at hi; omega
    exact ⟨kk + i, hi', by omega, by simp⟩
  have hxle : ∀ y ∈ S.take kk, le y x = true := fun y hy => by
    obtain ⟨i, hi, hk, rfl⟩ := mt y hy
    have h1 := hys (by omega)
    rw [List.getD_eq_getElem?_getD, List.getElem?_eq_getElem (show kk - 1 < S.length by omega)] at h1
    simp only [Option.getD_some] at h1
    by_cases e : i = kk - 1
    · subst e; exact h1
    · exact h.tr _ _ _ (hget i (kk - 1) hi (by omega) (by omega)) h1
  have hsp := Ps.srt_split h (S.take kk) (S.drop kk) [x] [] (fun a ha b hb => by
      obtain ⟨i, hi, hk, rfl⟩ := mt a ha
      obtain ⟨j, hj, hk', rfl⟩ := md b hb
      exact hget i j hi hj (by omega)) (by simp) (fun a ha b hb => by
      obtain rfl : a = x := by simpa using ha
      obtain ⟨j, hj, hk', rfl⟩ := md b hb
      have := hno j hk' hj
      rwa [List.getD_eq_getElem?_getD, List.getElem?_eq_getElem hj] at this) (by simp)
  rw [List.take_append_drop, List.append_nil, List.append_nil] at hsp
  rw [hsp, Ps.srt_id, Ps.srt_id]
  · exact hS.sublist (List.drop_sublist _ _)
  · refine List.pairwise_append.2 ⟨hS.sublist (List.take_sublist _ _), by simp, fun a ha b hb => ?_⟩
    obtain rfl : b = x := by simpa using hb
    exact hxle a ha
theorem srtP_succ {L : List (Int × Int × Int)} {k : Int} {n : Nat} (h : ¬ sideF (L.getD n T0) k < 0) :
    srtP L k (n + 1) = (srtP L k n).take (insP (leS L k) (srtP L k n) n (srtP L k n).length) ++ [(n : Int)] ++ (srtP L k n).drop (insP (leS L k) (srtP L k n) n (srtP L k n).length) := by
  unfold srtP
  rw [picks_succ, if_pos (by omega), ins_eq (cmpLeS L k).p]
theorem fc_rSeq (L : List (Int × Int × Int)) (k : Int) (hL : L.length < 1000000000) :
    FC Try.prog 17 [] [.sl 3 (L.map eT), .int .i64 k] (.own 3 1 ((srtP L k L.length).map eI)) := by
  refine fc_M (fn := Try.f17) (C := (tab [(22, c_side)] [])) (rs := [4]) mixed (by kernel_rfl) (by kernel_rfl) rfl rfl (by kernel_rfl) (by intro ys h; cases h) ?_
  simp +contextual (maxSteps := 5000000) only [go_sem, ↓reduceIte]
  refine M_loopI (fun s : Nat × Bool => ⟨[(0, .sl 3 (L.map eT)), (1, .int .i64 k), (5, .vec (idS s.2) (srtP L k s.1).length), (6, .int .i64 s.1)], [(idS s.2, .vec 3 1 ((srtP L k s.1).map eI) 0)]⟩) (fun s => L.length - s.1) (fun s => s.1 ≤ L.length) (0, false) ?_ ?_
  · simp +contextual (maxSteps := 5000000) only [go_sem, ↓reduceIte, idS, srtP, picks, List.filter_nil]
    simp [Ps.srt]
  · intro ⟨n, b⟩ hn
    simp only at hn
    by_cases hlt : n < L.length
    · cases b
      · have hx : ∀ j, j < (srtP L k n).length → ∃ a : Nat, (srtP L k n).getD j 0 = a ∧ a < n := fun j hj => by
          obtain ⟨a, e, h, _⟩ := picks_mem (Ps.srt_mem.1 (getD_mem (d := 0) hj))
          exact ⟨a, e, h⟩
        have hlen := srtP_len L k n
        have hlen2 := srtP_len L k (n + 1)
        by_cases hs : sideF (L.getD n (0, 0, 0)) k < 0
        · have hp : srtP L k (n + 1) = srtP L k n := by unfold srtP; rw [picks_succ, if_neg (fun h => by have : sideF (L.getD n T0) k < 0 := hs; omega), List.append_nil]
          simp +contextual (maxSteps := 5000000) only [go_sem, ↓reduceIte, hlt, eT_at, c_side, st_side, idS, hs, ↓Prod.exists, ↓Bool.exists_bool]
          exact fun _ => ⟨inR64 (by omega) (by omega), fun _ => ⟨n + 1, .inl ⟨⟨⟨by rw [hp], by simp⟩, by rw [hp]⟩, by omega, by omega⟩⟩⟩
        · have hsu := srtP_succ hs
          simp +contextual (maxSteps := 5000000) only [go_sem, ↓reduceIte, hlt, eT_at, c_side, st_side, idS, hs]
          intro _
          refine M_loopI (fun j : Nat => ⟨[(0, .sl 3 (L.map eT)), (1, .int .i64 k), (5, .vec 47 (srtP L k n).length), (6, .int .i64 n), (7, .int .i64 (insP (leS L k) (srtP L k n) n j)), (8, .int .i64 j)], [(47, .vec 3 1 ((srtP L k n).map eI) 0)]⟩) (fun j => (srtP L k n).length - j) (fun j => j ≤ (srtP L k n).length) 0 ?_ ?_
          · simp +contextual (maxSteps := 5000000) only [go_sem, ↓reduceIte, insP]
            rfl
          · intro j hj
            by_cases hjl : j < (srtP L k n).length
            · obtain ⟨a, hxa, han⟩ := hx j hjl
              have hle : leS L k ((srtP L k n).getD j 0) n = decide (sideF ((L.getD a (0, 0, 0)).fst, (L.getD a (0, 0, 0)).snd.fst, (L.getD a (0, 0, 0)).snd.snd) k ≤
                  sideF ((L.getD n (0, 0, 0)).fst, (L.getD n (0, 0, 0)).snd.fst, (L.getD n (0, 0, 0)).snd.snd) k) := by rw [hxa]; rfl
              simp +contextual (maxSteps := 5000000) only [go_sem, ↓reduceIte, hlt, hjl, eI_at, hxa, eT_at, c_side, st_side, show a < L.length by omega]
              simp only [aa, inR_iff]
              split
              · rename_i h
                rw [decide_eq_true h] at hle
                exact ⟨by omega, j + 1, ⟨by simp only [insP]; rw [if_pos hle]; simp, by simp⟩, by omega, by omega⟩
              · rename_i h
                rw [decide_eq_false h] at hle
                exact ⟨by omega, j + 1, ⟨by simp only [insP]; rw [hle]; rfl, by simp⟩, by omega, by omega⟩
            · obtain rfl : j = (srtP L k n).length := by omega
              have hkk := @insP_le (leS L k) (srtP L k n) n (srtP L k n).length
              simp +contextual (maxSteps := 5000000) only [go_sem, ↓reduceIte, hlt, Nat.lt_irrefl, ↓Prod.exists, ↓Bool.exists_bool, idS]
              simp only [aa, inR_iff, Int.toNat_zero, List.drop_zero, List.length_map, List.length_drop, Nat.sub_zero, Nat.le_refl, true_and]
              rw [← List.map_take, ← List.map_drop, ← List.map_take, Nat.min_eq_left hkk, Nat.min_self]
              generalize insP (leS L k) (srtP L k n) (↑n) (srtP L k n).length = kk at *
              have hl3 : (srtP L k (n + 1)).length = kk + 1 + ((srtP L k n).length - kk) := by rw [hsu]; simp; omega
              refine ⟨by omega, by omega, by omega, by omega, by omega, n + 1, .inr ⟨⟨⟨by rw [hl3], by simp⟩, ?_⟩, by omega, by omega⟩⟩
              rw [hsu, List.map_append, List.map_append, List.take_of_length_le (l := List.drop kk _) (by simp)]; rfl
      · have hx : ∀ j, j < (srtP L k n).length → ∃ a : Nat, (srtP L k n).getD j 0 = a ∧ a < n := fun j hj => by
          obtain ⟨a, e, h, _⟩ := picks_mem (Ps.srt_mem.1 (getD_mem (d := 0) hj))
          exact ⟨a, e, h⟩
        have hlen := srtP_len L k n
        have hlen2 := srtP_len L k (n + 1)
        by_cases hs : sideF (L.getD n (0, 0, 0)) k < 0
        · have hp : srtP L k (n + 1) = srtP L k n := by unfold srtP; rw [picks_succ, if_neg (fun h => by have : sideF (L.getD n T0) k < 0 := hs; omega), List.append_nil]
          simp +contextual (maxSteps := 5000000) only [go_sem, ↓reduceIte, hlt, eT_at, c_side, st_side, idS, hs, ↓Prod.exists, ↓Bool.exists_bool]
          exact fun _ => ⟨inR64 (by omega) (by omega), fun _ => ⟨n + 1, .inr ⟨⟨⟨by rw [hp], by simp⟩, by rw [hp]⟩, by omega, by omega⟩⟩⟩
        · have hsu := srtP_succ hs
          simp +contextual (maxSteps := 5000000) only [go_sem, ↓reduceIte, hlt, eT_at, c_side, st_side, idS, hs]
          intro _
          refine M_loopI (fun j : Nat => ⟨[(0, .sl 3 (L.map eT)), (1, .int .i64 k), (5, .vec 2047 (srtP L k n).length), (6, .int .i64 n), (7, .int .i64 (insP (leS L k) (srtP L k n) n j)), (8, .int .i64 j)], [(2047, .vec 3 1 ((srtP L k n).map eI) 0)]⟩) (fun j => (srtP L k n).length - j) (fun j => j ≤ (srtP L k n).length) 0 ?_ ?_
          · simp +contextual (maxSteps := 5000000) only [go_sem, ↓reduceIte, insP]
            rfl
          · intro j hj
            by_cases hjl : j < (srtP L k n).length
            · obtain ⟨a, hxa, han⟩ := hx j hjl
              have hle : leS L k ((srtP L k n).getD j 0) n = decide (sideF ((L.getD a (0, 0, 0)).fst, (L.getD a (0, 0, 0)).snd.fst, (L.getD a (0, 0, 0)).snd.snd) k ≤
                  sideF ((L.getD n (0, 0, 0)).fst, (L.getD n (0, 0, 0)).snd.fst, (L.getD n (0, 0, 0)).snd.snd) k) := by rw [hxa]; rfl
              simp +contextual (maxSteps := 5000000) only [go_sem, ↓reduceIte, hlt, hjl, eI_at, hxa, eT_at, c_side, st_side, show a < L.length by omega]
              simp only [aa, inR_iff]
              split
              · rename_i h
                rw [decide_eq_true h] at hle
                exact ⟨by omega, j + 1, ⟨by simp only [insP]; rw [if_pos hle]; simp, by simp⟩, by omega, by omega⟩
              · rename_i h
                rw [decide_eq_false h] at hle
                exact ⟨by omega, j + 1, ⟨by simp only [insP]; rw [hle]; rfl, by simp⟩, by omega, by omega⟩
            · obtain rfl : j = (srtP L k n).length := by omega
              have hkk := @insP_le (leS L k) (srtP L k n) n (srtP L k n).length
              simp +contextual (maxSteps := 5000000) only [go_sem, ↓reduceIte, hlt, Nat.lt_irrefl, ↓Prod.exists, ↓Bool.exists_bool, idS]
              simp only [aa, inR_iff, Int.toNat_zero, List.drop_zero, List.length_map, List.length_drop, Nat.sub_zero, Nat.le_refl, true_and]
              rw [← List.map_take, ← List.map_drop, ← List.map_take, Nat.min_eq_left hkk, Nat.min_self]
              generalize insP (leS L k) (srtP L k n) (↑n) (srtP L k n).length = kk at *
              have hl3 : (srtP L k (n + 1)).length = kk + 1 + ((srtP L k n).length - kk) := by rw [hsu]; simp; omega
              refine ⟨by omega, by omega, by omega, by omega, by omega, n + 1, .inl ⟨⟨⟨by rw [hl3], by simp⟩, ?_⟩, by omega, by omega⟩⟩
              rw [hsu, List.map_append, List.map_append, List.take_of_length_le (l := List.drop kk _) (by simp)]; rfl
    · obtain rfl : n = L.length := by omega
      cases b
      · simp +contextual (maxSteps := 5000000) only [go_sem, ↓reduceIte, Nat.lt_irrefl, idS]
      · simp +contextual (maxSteps := 5000000) only [go_sem, ↓reduceIte, Nat.lt_irrefl, idS]
end Go.Proofs.Ytojhjhnmfjdbeaa

set_option linter.unusedSimpArgs false
namespace Go.Proofs.Ytojhjhnmfjdbeaa
open Go.Tn
set_option maxHeartbeats 8000000
set_option maxRecDepth 100000

theorem gI (l : List Int) : gndL (l.map eI).flatten = true := gnd_eI l
theorem gP (l : List (Int × Int)) : gndL (l.map eP).flatten = true := gnd_eP l
theorem gT (l : List (Int × Int × Int)) : gndL (l.map eT).flatten = true := gnd_eT l
def c_works (caps args : List D) : Prop × Out := match caps, args with | [], [] => (True, .ret (.bool true)) | _, _ => (False, .ret .any)
theorem st_works : StC Try.prog 9 c_works := by
  intro caps args; unfold c_works; split
  · exact fun _ => fc_works
  · exact fun h => h.elim
def c_rSeq (caps args : List D) : Prop × Out := match caps, args with
  | [], [a, .int .i64 k] => (okT a ∧ (pT a).length < 1000000000, .own 3 1 ((srtP (pT a) k (pT a).length).map eI))
  | _, _ => (False, .ret .any)
theorem st_rSeq : StC Try.prog 17 c_rSeq := by
  intro caps args; unfold c_rSeq; split
  · rename_i a k
    rintro ⟨h, hl⟩
    refine fc_wk (wkL_self []) ?_ (by intro ys h; cases h) (fc_rSeq (pT a) k hl)
    simp only [wkL]
    exact ⟨okT_wk h, wk_self _, trivial⟩
  · exact fun h => h.elim
def c_rInts (caps args : List D) : Prop × Out := match caps, args with
  | [], [.sl 1 a, .sl 1 b] => (a = (a.map dI).map eI ∧ b = (b.map dI).map eI, .ret (.bool (decide (a.map dI = b.map dI))))
  | _, _ => (False, .ret .any)
theorem st_rInts : StC Try.prog 15 c_rInts := by
  intro caps args; unfold c_rInts; split
  · rename_i a b
    rintro ⟨h1, h2⟩
    have := fc_rInts (a.map dI) (b.map dI)
    rw [← h1, ← h2] at this
    exact this
  · exact fun h => h.elim
def c_rSameP (caps args : List D) : Prop × Out := match caps, args with
  | [], [.sl 2 a, .sl 2 b] => (a = (a.map dP).map eP ∧ b = (b.map dP).map eP, .ret (.bool (decide (a.map dP = b.map dP))))
  | _, _ => (False, .ret .any)
theorem st_rSameP : StC Try.prog 19 c_rSameP := by
  intro caps args; unfold c_rSameP; split
  · rename_i a b
    rintro ⟨h1, h2⟩
    have := fc_rSameP (a.map dP) (b.map dP)
    rw [← h1, ← h2] at this
    exact this
  · exact fun h => h.elim
def c_few4 (caps args : List D) : Prop × Out := match caps, args with | [], [.agg [.sl 1 hd, .sl 1 rows]] => ((hd = (hd.map dS).map eS ∧ rows = (rows.map dR).map eR) ∧ slen (hd.map dS) + rlen (rows.map dR) < 2000000000, .ret (.bool (few4 (hd.map dS, rows.map dR)))) | _, _ => (False, .ret .any)
theorem st_few4 : StC Try.prog 18 c_few4 := by
  intro caps args; unfold c_few4; split
  · rename_i hd rows
    rintro ⟨⟨h1, h2⟩, h3⟩
    have := fc_few4 (hd.map dS, rows.map dR) h3
    simp only [dTab] at this
    rw [← h1, ← h2] at this
    exact this
  · exact fun h => h.elim
def c_rDoubles (caps args : List D) : Prop × Out := match caps, args with
  | [], [.agg [.sl 1 ha, .sl 1 ra], .agg [.sl 1 hb, .sl 1 rb], .sl 1 la, .sl 1 lb, .sl 2 cs] =>
    ((la = (la.map dI).map eI ∧ lb = (lb.map dI).map eI ∧ cs = (cs.map dP).map eP) ∧ (ha = (ha.map dS).map eS ∧ ra = (ra.map dR).map eR) ∧ (hb = (hb.map dS).map eS ∧ rb = (rb.map dR).map eR) ∧ lb.length < 1000000000,
      .own 54 2 ((dbF (ha.map dS, ra.map dR) (hb.map dS, rb.map dR) (la.map dI) (lb.map dI) (cs.map dP)).map eP))
  | _, _ => (False, .ret .any)
theorem st_rDoubles : StC Try.prog 21 c_rDoubles := by
  intro caps args; unfold c_rDoubles; split
  · rename_i ha ra hb rb la lb cs
    rintro ⟨⟨h1, h2, h3⟩, ⟨h4, h5⟩, ⟨h6, h7⟩, l2⟩
    have := fc_rDoubles (ha.map dS, ra.map dR) (hb.map dS, rb.map dR) (la.map dI) (lb.map dI) (cs.map dP) (by simpa using l2)
    simp only [dTab] at this
    rw [← h1, ← h2, ← h3, ← h4, ← h5, ← h6, ← h7] at this
    exact this
  · exact fun h => h.elim
theorem seq_eq (L : List (Int × Int × Int)) (k : Int) : seqF L k = srtP L k L.length := by
  unfold seqF srtP
  by_cases h : 0 ≤ k ∧ k < 3
  · rw [if_pos h]
  · rw [if_neg h]
    have : picks L k L.length = [] := by
      unfold picks
      rw [List.map_eq_nil_iff, List.filter_eq_nil_iff]
      intro i _
      have : sideF (L.getD i T0) k = -1 := by unfold sideF; rw [if_neg (by omega), if_neg (by omega), if_neg (by omega)]
      rw [this]; simp
    rw [this]; simp [Ps.srt]
def thr (p0 p1 p2 : List (Int × Int)) (n0 n1 n2 : Int) : D := .agg [.sl 2 (p0.map eP), .sl 2 (p1.map eP), .sl 2 (p2.map eP), .int .i64 n0, .int .i64 n1, .int .i64 n2]
theorem tr_cases (p0 p1 p2 : List (Int × Int)) (n0 n1 n2 : Int) (h0 : n0 ≤ 40) (h1 : n1 ≤ 40) (h2 : n2 ≤ 40) :
    (∃ e, e ≠ 0 ∧ trOut p0 p1 p2 n0 n1 n2 = .tup [.nil, .int .i64 e]) ∨ (trOut p0 p1 p2 n0 n1 n2 = .tup [.sl 3 ((trL p0 p1 p2 n0 n1 n2).map eT), .int .i64 0] ∧ (trL p0 p1 p2 n0 n1 n2).length ≤ 120 ∧ Good p0 n0 n1 ∧ Good p1 n0 n2 ∧ Good p2 n1 n2) := by
  unfold trOut
  by_cases c0 : chk p0 n0 n1 = 0
  · by_cases c1 : chk p1 n0 n2 = 0
    · by_cases c2 : chk p2 n1 n2 = 0
      · refine .inr ⟨by rw [if_neg (by omega), if_neg (by omega), if_neg (by omega)], ?_, good_of c0, good_of c1, good_of c2⟩
        have e1 := @tr_len p0 p1 p2 n0 n1 n2
        have e2 := rsB_len p0 n1.toNat
        have e3 := rsB_len p1 n2.toNat
        have e4 := rsA_len (byF p2) (rsB p0 n1.toNat) (rsB p1 n2.toNat) (rsB p0 n1.toNat).length
        omega
      · exact .inl ⟨_, c2, by rw [if_neg (by omega), if_neg (by omega), if_pos c2]⟩
    · exact .inl ⟨_, c1, by rw [if_neg (by omega), if_pos c1]⟩
  · exact .inl ⟨_, c0, by rw [if_pos c0]⟩
theorem fc_IdentTrios (p0 p1 p2 : List (Int × Int)) (n0 n1 n2 : Int) : FC Try.prog 3 [] [thr p0 p1 p2 n0 n1 n2] (.ret (.bool true)) := by
  refine fc_M (fn := Try.f3) (C := (tab [(9, c_works), (10, c_few), (11, c_Trios), (12, c_rTrios), (14, c_of), (13, c_rSame)] [])) (rs := [2]) mixed (by kernel_rfl) (by kernel_rfl) rfl rfl (by kernel_rfl) (by intro ys h; cases h) ?_
  unfold thr
  by_cases hf : p0.length ≤ 40 ∧ p1.length ≤ 40 ∧ p2.length ≤ 40 ∧ n0 ≤ 40 ∧ n1 ≤ 40 ∧ n2 ≤ 40
  · have hd : decide (p0.length ≤ 40 ∧ p1.length ≤ 40 ∧ p2.length ≤ 40 ∧ n0 ≤ 40 ∧ n1 ≤ 40 ∧ n2 ≤ 40) = true := decide_eq_true hf
    obtain ⟨l0, l1, l2, b0, b1, b2⟩ := hf
    have hr := trOut_eq p0 p1 p2 n0 n1 n2
    rcases tr_cases p0 p1 p2 n0 n1 n2 b0 b1 b2 with ⟨e, he, ht⟩ | ⟨ht, hl, _⟩
    · rw [ht] at hr
      have hr := hr.symm
      simp +contextual (maxSteps := 5000000) only [go_sem, ↓reduceIte, c_works, st_works, c_few, st_few, dP_eP, hd, c_Trios, st_Trios, c_rTrios, st_rTrios, okP, pP, ht, hr, c_of, st_of, okT, pT, c_rSame, st_rSame, gT]
      and_intros <;> omega
    · rw [ht] at hr
      have hr := hr.symm
      simp +contextual (maxSteps := 5000000) only [go_sem, ↓reduceIte, c_works, st_works, c_few, st_few, dP_eP, hd, c_Trios, st_Trios, c_rTrios, st_rTrios, okP, pP, ht, hr, c_of, st_of, okT, pT, dT_eT, c_rSame, st_rSame, gT]
      and_intros <;> omega
  · have hd : decide (p0.length ≤ 40 ∧ p1.length ≤ 40 ∧ p2.length ≤ 40 ∧ n0 ≤ 40 ∧ n1 ≤ 40 ∧ n2 ≤ 40) = false := decide_eq_false hf
    simp +contextual (maxSteps := 5000000) only [go_sem, ↓reduceIte, c_works, st_works, c_few, st_few, dP_eP, hd]
theorem fc_IdentSeqs (L : List (Int × Int × Int)) (k : Int) : FC Try.prog 4 [] [.sl 3 (L.map eT), .int .i64 k] (.ret (.bool true)) := by
  refine fc_M (fn := Try.f4) (C := (tab [(9, c_works), (16, c_Seq), (14, c_of), (17, c_rSeq), (15, c_rInts)] [])) (rs := [4]) mixed (by kernel_rfl) (by kernel_rfl) rfl rfl (by kernel_rfl) (by intro ys h; cases h) ?_
  by_cases hf : 40 < L.length
  · have hf2 : (40 : Int) < L.length := by omega
    simp +contextual (maxSteps := 5000000) only [go_sem, ↓reduceIte, c_works, st_works, hf, hf2]
  · have hf2 : ¬ (40 : Int) < L.length := by omega
    have hL : L.length < 1000000000 := by omega
    have he := seq_eq L k
    simp +contextual (maxSteps := 5000000) only [go_sem, ↓reduceIte, c_works, st_works, hf, hf2, c_Seq, st_Seq, c_of, st_of, okT, pT, dT_eT, hL, c_rSeq, st_rSeq, c_rInts, st_rInts, dI_eI, he, gI, gT]
theorem fc_IdentDoubles (a b : Tab) (la lb : List Int) (cols : List (Int × Int)) (h1 : slen a.1 + rlen a.2 < 2000000000) (h2 : slen b.1 + rlen b.2 < 2000000000) :
    FC Try.prog 5 [] [dTab a, dTab b, .sl 1 (la.map eI), .sl 1 (lb.map eI), .sl 2 (cols.map eP)] (.ret (.bool true)) := by
  refine fc_M (fn := Try.f5) (C := (tab [(9, c_works), (18, c_few4), (20, c_Doubles), (21, c_rDoubles), (19, c_rSameP)] [])) (rs := [10]) mixed (by kernel_rfl) (by kernel_rfl) rfl rfl (by kernel_rfl) (by intro ys h; cases h) ?_
  cases hfa : few4 a
  · simp +contextual (maxSteps := 5000000) only [go_sem, ↓reduceIte, c_works, st_works, c_few4, st_few4, dS_eS, dR_eR, hfa, h1, h2]
  · cases hfb : few4 b
    · simp +contextual (maxSteps := 5000000) only [go_sem, ↓reduceIte, c_works, st_works, c_few4, st_few4, dS_eS, dR_eR, hfa, hfb, h1, h2]
    · simp +contextual (maxSteps := 5000000) only [go_sem, ↓reduceIte, c_works, st_works, c_few4, st_few4, dS_eS, dR_eR, hfa, hfb, h1, h2, c_Doubles, st_Doubles, c_rDoubles, st_rDoubles, c_rSameP, st_rSameP, dI_eI, dP_eP, gP]
      intros
      and_intros <;> omega
end Go.Proofs.Ytojhjhnmfjdbeaa

set_option linter.unusedSimpArgs false
namespace Go.Proofs.Ytojhjhnmfjdbeaa
open Go.Tn Go.RowKit
theorem own : ownKnob Try.prog.godebug = none := by kernel_rfl
theorem laidOut : laidOutB Try.prog = true := by kernel_rfl
mutual
theorem bulk_eq {H : Type} : ∀ d : DataW H, Rows.uptoBulk d = blk d
  | .lit l => by cases l <;> simp [Rows.uptoBulk, blk]
  | .nil => by simp [Rows.uptoBulk, blk]
  | .ptr d => by simp [Rows.uptoBulk, blk, bulk_eq d]
  | .slice elems spare => by simp [Rows.uptoBulk, blk, bulkL_eq elems, bulkL_eq spare]
  | .agg parts => by simp [Rows.uptoBulk, blk, bulkL_eq parts]
  | .iface _ d => by simp [Rows.uptoBulk, blk, bulk_eq d]
  | .map entries => by simp [Rows.uptoBulk, blk, bulkE_eq entries]
  | .held _ => by simp [Rows.uptoBulk, blk]
theorem bulkL_eq {H : Type} : ∀ l : List (DataW H), Rows.uptoBulkAll l = blkL l
  | [] => by simp [Rows.uptoBulkAll, blkL]
  | d :: r => by simp [Rows.uptoBulkAll, blkL, bulk_eq d, bulkL_eq r]
theorem bulkE_eq {H : Type} : ∀ l : List (Lit × DataW H), Rows.uptoBulkEntries l = blkE l
  | [] => by simp [Rows.uptoBulkEntries, blkE]
  | x :: r => by simp [Rows.uptoBulkEntries, blkE, bulk1_eq x, bulkE_eq r]
theorem bulk1_eq {H : Type} : ∀ x : Lit × DataW H, Rows.uptoBulkEntry x = blk1 x
  | (l, d) => by cases l <;> simp [Rows.uptoBulkEntry, blk1, bulk_eq d]
end
theorem small_le {H : Type} {ds : List (DataW H)} (h : Rows.uptoSmall H ds = true) : blkL ds ≤ 1048576 := by
  rw [← bulkL_eq]; exact of_decide_eq_true h
theorem szR_S (l : List (List UInt8)) : slen l ≤ szR (l.map eS) := by
  induction l with
  | nil => simp [slen, szR]
  | cons s l ih => simp only [slen_cons, List.map_cons, szR, eS, szL, szD]; unfold slen at *; omega
theorem szR_R (l : List (List (List UInt8))) : rlen l ≤ szR (l.map eR) := by
  induction l with
  | nil => simp [rlen, szR]
  | cons r l ih =>
    have := szR_S r
    simp only [rlen_cons, List.map_cons, szR, eR, szL, szD]; unfold rlen at *; omega
theorem tab_le {t : Tab} (h : szL [.sl 1 (t.1.map eS), .sl 1 (t.2.map eR)] ≤ 1048576) : slen t.1 + rlen t.2 < 2000000000 := by
  have := szR_S t.1
  have := szR_R t.2
  simp only [szL, szD] at h
  omega
end Go.Proofs.Ytojhjhnmfjdbeaa

set_option linter.unusedSimpArgs false
namespace Go.Proofs.Ytojhjhnmfjdbeaa
open Go.Tn
set_option maxHeartbeats 8000000
set_option maxRecDepth 100000

/-! each side is told once -/
theorem incr_eq : ∀ {S T : List Int}, S.Pairwise (· < ·) → T.Pairwise (· < ·) → (∀ x, x ∈ S ↔ x ∈ T) → S = T
  | [], [], _, _, _ => rfl
  | [], t :: T, _, _, h => absurd ((h t).2 (by simp)) (by simp)
  | s :: S, [], _, _, h => absurd ((h s).1 (by simp)) (by simp)
  | s :: S, t :: T, hS, hT, h => by
    rw [List.pairwise_cons] at hS hT
    have e : s = t := by
      have h1 := (h s).1 (by simp)
      have h2 := (h t).2 (by simp)
      rcases List.mem_cons.1 h1 with e | h1
      · exact e
      · rcases List.mem_cons.1 h2 with e | h2
        · exact e.symm
        · have := hT.1 s h1; have := hS.1 t h2; omega
    subst e
    congr 1
    refine incr_eq hS.2 hT.2 fun x => ⟨fun hx => ?_, fun hx => ?_⟩
    · rcases List.mem_cons.1 ((h x).1 (List.mem_cons_of_mem _ hx)) with e | hx'
      · have := hS.1 x hx; omega
      · exact hx'
    · rcases List.mem_cons.1 ((h x).2 (List.mem_cons_of_mem _ hx)) with e | hx'
      · have := hT.1 x hx; omega
      · exact hx'
def valsF (L : List (Int × Int × Int)) (k : Int) : List Int := (L.map fun t => sideF t k).filter fun x => decide (0 ≤ x)
theorem picks_vals (L : List (Int × Int × Int)) (k : Int) : ∀ n, n ≤ L.length → (picks L k n).map (fun x => sideF (L.getD x.toNat T0) k) = valsF (L.take n) k
  | 0, _ => by simp [picks, valsF]
  | n + 1, h => by
    have e : (fun x : Int => sideF (L.getD x.toNat T0) k) (n : Int) = sideF (L.getD n T0) k := by simp only [Int.toNat_natCast]
    rw [picks_succ, List.map_append, picks_vals L k n (by omega)]
    unfold valsF
    rw [List.take_add_one, List.getElem?_eq_getElem (by omega), List.map_append, List.filter_append]
    congr 1
    have e2 : L.getD n T0 = L[n] := by rw [List.getD_eq_getElem?_getD, List.getElem?_eq_getElem (by omega)]; rfl
    rw [← e2]
    simp only [Option.toList_some, List.map_cons, List.map_nil, List.filter_cons, List.filter_nil]
    by_cases c : 0 ≤ sideF (L.getD n T0) k
    · rw [if_pos c, decide_eq_true c, if_pos rfl, List.map_cons, List.map_nil, Int.toNat_natCast]
    · rw [if_neg c, decide_eq_false c]; rfl
theorem seq_vals {L : List (Int × Int × Int)} {k : Int} {n : Nat} (hk : 0 ≤ k ∧ k < 3) (hn : (valsF L k).Nodup) (hm : ∀ x, x ∈ valsF L k ↔ 0 ≤ x ∧ x < n) :
    (seqF L k).length = n ∧ ∀ i, i < n → ∃ a : Nat, (seqF L k).getD i 0 = a ∧ a < L.length ∧ sideF (L.getD a T0) k = i := by
  have hs : seqF L k = Ps.srt (leS L k) (picks L k L.length) := by unfold seqF; rw [if_pos hk]
  have hv := picks_vals L k L.length (Nat.le_refl _)
  rw [List.take_length] at hv
  have hp : (Ps.srt (leS L k) (picks L k L.length)).Perm (picks L k L.length) := List.mergeSort_perm _ _
  have hpm := hp.map (fun x => sideF (L.getD x.toNat T0) k)
  rw [hv] at hpm
  have hsorted := Ps.srt_sorted (cmpLeS L k).p (picks L k L.length)
  have hmemS : ∀ x ∈ Ps.srt (leS L k) (picks L k L.length), ∃ a : Nat, x = a ∧ a < L.length := fun x hx => by
    obtain ⟨a, e, h, _⟩ := picks_mem (Ps.srt_mem.1 hx)
    exact ⟨a, e, h⟩
  rw [← hs] at hpm hsorted hmemS
  generalize seqF L k = s at *
  have hnd := hpm.nodup_iff.2 hn
  have hpw : (s.map (fun x => sideF (L.getD x.toNat T0) k)).Pairwise (· < ·) := by
    rw [List.pairwise_map]
    have h2 := List.pairwise_map.1 hnd
    exact (hsorted.and h2).imp fun h => by
      have h1 := h.1
      unfold leS at h1
      have := of_decide_eq_true h1
      have := h.2
      omega
  have heq : s.map (fun x => sideF (L.getD x.toNat T0) k) = (List.range n).map (fun i : Nat => (i : Int)) := by
    refine incr_eq hpw (List.pairwise_map.2 (List.pairwise_lt_range.imp fun h => by omega)) fun x => ?_
    rw [hpm.mem_iff, hm, List.mem_map]
    exact ⟨fun h => ⟨x.toNat, List.mem_range.2 (by omega), by omega⟩, fun ⟨i, hi, e⟩ => by have := List.mem_range.1 hi; omega⟩
  have hl : s.length = n := by have := congrArg List.length heq; simpa using this
  refine ⟨hl, fun i hi => ?_⟩
  have hi' : i < s.length := by omega
  obtain ⟨a, ea, ha⟩ := hmemS s[i] (List.getElem_mem hi')
  have hget := congrArg (fun l => l[i]?) heq
  simp only [List.getElem?_map, List.getElem?_eq_getElem hi', List.getElem?_range hi, Option.map_some, Option.some.injEq] at hget
  rw [ea, Int.toNat_natCast] at hget
  exact ⟨a, by rw [List.getD_eq_getElem?_getD, List.getElem?_eq_getElem hi']; exact ea, ha, hget⟩
/-- the Bs that come by the As, one by one -/
theorem part_a {p : List (Int × Int)} {na nb : Int} (hg : Good p na nb) : (((List.range na.toNat).map fun i : Nat => ofF p i).filter fun x => decide (0 ≤ x)).Nodup ∧
    ∀ x, x ∈ (((List.range na.toNat).map fun i : Nat => ofF p i).filter fun x => decide (0 ≤ x)) ↔ x ∈ p.map (·.2) := by
  constructor
  · unfold List.Nodup
    rw [List.pairwise_filter, List.pairwise_map]
    refine List.pairwise_lt_range.imp fun {a b} h ha _ e => ?_
    have := of_inj hg (of_decide_eq_true ha) e
    omega
  · intro x
    rw [List.mem_filter, List.mem_map]
    constructor
    · rintro ⟨⟨i, _, rfl⟩, h⟩
      have h := of_decide_eq_true h
      have hm : (i : Int) ∈ p.map (·.1) := Classical.byContradiction fun hc => by rw [ofF_none hc] at h; omega
      exact List.mem_map.2 ⟨_, ofF_mem hm, rfl⟩
    · intro h
      obtain ⟨q, hq, rfl⟩ := List.mem_map.1 h
      have hi := hg.inn q hq
      unfold inB at hi
      have he : ofF p q.1 = q.2 := by
        have hq' : (q.1, q.2) ∈ p := hq
        clear hi h
        have hn := hg.na
        clear hg
        induction p with
        | nil => simp at hq
        | cons r l ih =>
          rw [List.map_cons, List.nodup_cons] at hn
          simp only [ofF]
          rcases List.mem_cons.1 hq' with e | h
          · rw [← e]; simp
          · rw [if_neg (fun e => hn.1 (List.mem_map.2 ⟨_, h, e.symm⟩)), ih h h hn.2]
      exact ⟨⟨q.1.toNat, List.mem_range.2 (by omega), by rw [Int.toNat_of_nonneg hi.1, he]⟩, decide_eq_true (by omega)⟩
theorem part_all {p : List (Int × Int)} {na nb : Int} (hg : Good p na nb) {R : List Int} (hR : R.Nodup) (hm : ∀ x, x ∈ R ↔ x ∈ rrB p nb.toNat) :
    ((((List.range na.toNat).map fun i : Nat => ofF p i).filter fun x => decide (0 ≤ x)) ++ R).Nodup ∧ ∀ x, x ∈ (((List.range na.toNat).map fun i : Nat => ofF p i).filter fun x => decide (0 ≤ x)) ++ R ↔ 0 ≤ x ∧ x < nb.toNat := by
  obtain ⟨h1, h2⟩ := part_a hg
  constructor
  · rw [List.nodup_append]
    refine ⟨h1, hR, fun x hx y hy e => ?_⟩
    subst e
    exact (rrB_mem.1 ((hm x).1 hy)).2 ((h2 x).1 hx)
  · intro x
    rw [List.mem_append, h2, hm, rrB_mem]
    constructor
    · rintro (h | h)
      · obtain ⟨q, hq, rfl⟩ := List.mem_map.1 h
        have hi := hg.inn q hq
        unfold inB at hi
        omega
      · exact h.1
    · intro h
      by_cases c : x ∈ p.map (·.2)
      · exact .inl c
      · exact .inr ⟨h, c⟩
theorem once_vals {p0 p1 p2 : List (Int × Int)} {n0 n1 n2 : Int} (g0 : Good p0 n0 n1) (g1 : Good p1 n0 n2) (g2 : Good p2 n1 n2) (k : Int) (n : Int)
    (h : (k = 0 ∧ n = n0) ∨ (k = 1 ∧ n = n1) ∨ (k = 2 ∧ n = n2)) : (valsF (rtL p0 p1 p2 n0 n1 n2) k).Nodup ∧ ∀ x, x ∈ valsF (rtL p0 p1 p2 n0 n1 n2) k ↔ 0 ≤ x ∧ x < n.toNat := by
  have split : valsF (rtL p0 p1 p2 n0 n1 n2) k = valsF (rtA p0 p1 n0.toNat) k ++ (valsF (rtB p2 (rrB p0 n1.toNat) (rrB p1 n2.toNat)) k ++ valsF (rtC ((rrB p0 n1.toNat).map (rbF p2 (rrB p1 n2.toNat))) (rrB p1 n2.toNat)) k) := by
    unfold valsF rtL
    rw [List.map_append, List.map_append, List.filter_append, List.filter_append, List.append_assoc]
  rw [split]
  have nol : ∀ {α : Type} {l : List α} {f : α → Int}, (∀ x ∈ l, f x = -1) → (l.map f).filter (fun x => decide (0 ≤ x)) = [] := fun {α l f} h => by
    rw [List.filter_eq_nil_iff]
    intro x hx
    obtain ⟨y, hy, rfl⟩ := List.mem_map.1 hx
    rw [h y hy]; simp
  have nn : ∀ {l : List Int}, (∀ x ∈ l, 0 ≤ x) → l.filter (fun x => decide (0 ≤ x)) = l := fun {l} h => List.filter_eq_self.2 fun x hx => decide_eq_true (h x hx)
  have la0 : ∀ x ∈ rrB p0 n1.toNat, 0 ≤ x := fun x hx => (rrB_mem.1 hx).1.1
  have lb0 : ∀ x ∈ rrB p1 n2.toNat, 0 ≤ x := fun x hx => (rrB_mem.1 hx).1.1
  have lan := rrB_nodup p0 n1.toNat
  have lbn := rrB_nodup p1 n2.toNat
  rcases h with ⟨rfl, rfl⟩ | ⟨rfl, rfl⟩ | ⟨rfl, rfl⟩
  · have eA : valsF (rtA p0 p1 n.toNat) 0 = (List.range n.toNat).map fun i : Nat => (i : Int) := by
      unfold valsF rtA
      rw [List.map_map]
      exact nn fun x hx => by obtain ⟨i, _, rfl⟩ := List.mem_map.1 hx; exact Int.natCast_nonneg i
    have eB : valsF (rtB p2 (rrB p0 n1.toNat) (rrB p1 n2.toNat)) 0 = [] := by
      unfold valsF rtB
      rw [List.map_map]
      exact nol fun _ _ => rfl
    have eC : valsF (rtC ((rrB p0 n1.toNat).map (rbF p2 (rrB p1 n2.toNat))) (rrB p1 n2.toNat)) 0 = [] := by
      unfold valsF rtC
      rw [List.map_map]
      exact nol fun _ _ => rfl
    rw [eA, eB, eC, List.append_nil, List.append_nil]
    refine ⟨List.pairwise_map.2 (List.pairwise_lt_range.imp fun h => by omega), fun x => ?_⟩
    rw [List.mem_map]
    exact ⟨fun ⟨i, hi, e⟩ => by have := List.mem_range.1 hi; omega, fun h => ⟨x.toNat, List.mem_range.2 (by omega), by omega⟩⟩
  · have eA : valsF (rtA p0 p1 n0.toNat) 1 = ((List.range n0.toNat).map fun i : Nat => ofF p0 i).filter fun x => decide (0 ≤ x) := by
      unfold valsF rtA
      rw [List.map_map]; rfl
    have eB : valsF (rtB p2 (rrB p0 n.toNat) (rrB p1 n2.toNat)) 1 = rrB p0 n.toNat := by
      unfold valsF rtB
      rw [List.map_map]
      exact (nn fun x hx => by obtain ⟨i, hi, rfl⟩ := List.mem_map.1 hx; exact la0 i hi).trans (List.map_id'' (fun _ => rfl) _)
    have eC : valsF (rtC ((rrB p0 n.toNat).map (rbF p2 (rrB p1 n2.toNat))) (rrB p1 n2.toNat)) 1 = [] := by
      unfold valsF rtC
      rw [List.map_map]
      exact nol fun _ _ => rfl
    rw [eA, eB, eC, List.append_nil]
    exact part_all g0 lan fun x => Iff.rfl
  · have eA : valsF (rtA p0 p1 n0.toNat) 2 = ((List.range n0.toNat).map fun i : Nat => ofF p1 i).filter fun x => decide (0 ≤ x) := by
      unfold valsF rtA
      rw [List.map_map]; rfl
    have eB : valsF (rtB p2 (rrB p0 n1.toNat) (rrB p1 n.toNat)) 2 = ((rrB p0 n1.toNat).map (rbF p2 (rrB p1 n.toNat))).filter fun x => decide (0 ≤ x) := by
      unfold valsF rtB
      rw [List.map_map]; rfl
    have eC : valsF (rtC ((rrB p0 n1.toNat).map (rbF p2 (rrB p1 n.toNat))) (rrB p1 n.toNat)) 2 = (rrB p1 n.toNat).filter fun x => !decide (x ∈ (rrB p0 n1.toNat).map (rbF p2 (rrB p1 n.toNat))) := by
      unfold valsF rtC
      rw [List.map_map]
      exact (nn fun x hx => by obtain ⟨i, hi, rfl⟩ := List.mem_map.1 hx; exact lb0 i (List.mem_filter.1 hi).1).trans (List.map_id'' (fun _ => rfl) _)
    rw [eA, eB, eC]
    generalize rrB p0 n1.toNat = la at *
    have hrb : ∀ {x}, 0 ≤ rbF p2 (rrB p1 n.toNat) x → rbF p2 (rrB p1 n.toNat) x = ofF p2 x ∧ ofF p2 x ∈ rrB p1 n.toNat := fun {x} h => by
      unfold rbF at h ⊢
      split at h
      · rename_i c; rw [if_pos c]; exact ⟨rfl, c⟩
      · omega
    refine part_all g1 ?_ fun x => ?_
    · rw [List.nodup_append]
      refine ⟨?_, lbn.filter _, fun x hx y hy e => ?_⟩
      · unfold List.Nodup
        rw [List.pairwise_filter, List.pairwise_map]
        refine lan.imp fun {a b} h ha hb e => ?_
        have h1 := hrb (of_decide_eq_true ha)
        have h2 := hrb (of_decide_eq_true hb)
        have ha := of_decide_eq_true ha
        rw [h1.1, h2.1] at e
        rw [h1.1] at ha
        exact h (of_inj g2 ha e)
      · subst e
        have := (List.mem_filter.1 hy).2
        simp only [Bool.not_eq_true', decide_eq_false_iff_not] at this
        exact this (List.mem_filter.1 hx).1
    · rw [List.mem_append, List.mem_filter, List.mem_filter]
      constructor
      · rintro (⟨h1, h2⟩ | ⟨h1, _⟩)
        · obtain ⟨y, _, rfl⟩ := List.mem_map.1 h1
          have := hrb (of_decide_eq_true h2)
          rw [this.1]; exact this.2
        · exact h1
      · intro hx
        by_cases c : x ∈ la.map (rbF p2 (rrB p1 n.toNat))
        · exact .inl ⟨c, decide_eq_true (lb0 x hx)⟩
        · exact .inr ⟨hx, by rw [decide_eq_false c]; rfl⟩
end Go.Proofs.Ytojhjhnmfjdbeaa

set_option linter.unusedSimpArgs false
namespace Go.Proofs.Ytojhjhnmfjdbeaa
open Go.Tn
set_option maxHeartbeats 8000000
set_option maxRecDepth 100000

theorem fc_IdentOnce (p0 p1 p2 : List (Int × Int)) (n0 n1 n2 : Int) : FC Try.prog 6 [] [thr p0 p1 p2 n0 n1 n2] (.ret (.bool true)) := by
  refine fc_M (fn := Try.f6) (C := (tab [(9, c_works), (10, c_few), (11, c_Trios), (16, c_Seq), (14, c_of), (22, c_side)] [])) (rs := [2]) mixed (by kernel_rfl) (by kernel_rfl) rfl rfl (by kernel_rfl) (by intro ys h; cases h) ?_
  unfold thr
  by_cases hf : p0.length ≤ 40 ∧ p1.length ≤ 40 ∧ p2.length ≤ 40 ∧ n0 ≤ 40 ∧ n1 ≤ 40 ∧ n2 ≤ 40
  · have hd : decide (p0.length ≤ 40 ∧ p1.length ≤ 40 ∧ p2.length ≤ 40 ∧ n0 ≤ 40 ∧ n1 ≤ 40 ∧ n2 ≤ 40) = true := decide_eq_true hf
    obtain ⟨l0, l1, l2, b0, b1, b2⟩ := hf
    have k0 : n0 < 1000000000 := by omega
    have k1 : n1 < 1000000000 := by omega
    have k2 : n2 < 1000000000 := by omega
    have m0 : p0.length < 1000000000 := by omega
    have m1 : p1.length < 1000000000 := by omega
    have m2 : p2.length < 1000000000 := by omega
    rcases tr_cases p0 p1 p2 n0 n1 n2 b0 b1 b2 with ⟨e, he, ht⟩ | ⟨ht, hl, g0, g1, g2⟩
    · simp +contextual (maxSteps := 5000000) only [go_sem, ↓reduceIte, c_works, st_works, c_few, st_few, dP_eP, hd, c_Trios, st_Trios, okP, pP, ht, he, k0, k1, k2, m0, m1, m2, Int.reduceEq, Int.reduceNe, Int.reduceLT, Int.reduceLE, Int.reduceToNat, Int.cast_ofNat_Int]
    · have he := tr_eq g0 g1 g2
      rw [he] at ht hl
      have hvals : ∀ (k n : Int), (k = 0 ∧ n = n0) ∨ (k = 1 ∧ n = n1) ∨ (k = 2 ∧ n = n2) → _ := fun k n h => seq_vals (L := rtL p0 p1 p2 n0 n1 n2) (k := k) (n := n.toNat) (by omega) (once_vals g0 g1 g2 k n h).1 (once_vals g0 g1 g2 k n h).2
      have z0 := g0.a0
      have z1 := g0.b0
      have z2 := g1.b0
      have hL9 : (rtL p0 p1 p2 n0 n1 n2).length < 1000000000 := by omega
      generalize hT : (rtL p0 p1 p2 n0 n1 n2) = L at *
      simp +contextual (maxSteps := 5000000) only [go_sem, ↓reduceIte, c_works, st_works, c_few, st_few, dP_eP, hd, c_Trios, st_Trios, okP, pP, ht, k0, k1, k2, m0, m1, m2, Int.reduceEq, Int.reduceNe, Int.reduceLT, Int.reduceLE, Int.reduceToNat, Int.cast_ofNat_Int]
      refine M_loopI (fun k : Nat => ⟨[(1, .loc 1 0), (3, .bool true), (4, .sl 3 (L.map eT)), (6, .int .i64 k)], [(1, .blk [.sl 2 (p0.map eP), .sl 2 (p1.map eP), .sl 2 (p2.map eP), .int .i64 n0, .int .i64 n1, .int .i64 n2] false)]⟩) (fun k => 3 - k) (fun k => k ≤ 3) 0 ?_ ?_
      · simp +contextual (maxSteps := 5000000) only [go_sem, ↓reduceIte]
        rfl
      · intro k hk
        by_cases h3 : k < 3
        · have hc : k = 0 ∨ k = 1 ∨ k = 2 := by omega
          have h3' : (k : Int) < 3 := by omega
          rcases hc with rfl | rfl | rfl
          · obtain ⟨s1, s2⟩ := hvals 0 n0 (by omega)
            simp +contextual (maxSteps := 5000000) only [go_sem, ↓reduceIte, Int.reduceEq, Int.reduceNe, Int.reduceLT, Int.reduceLE, Int.reduceToNat, Int.cast_ofNat_Int, c_Seq, st_Seq, okT, pT, dT_eT, hL9, s1, show ((n0.toNat : Nat) : Int) = n0 by omega]
            refine M_loopI (fun i : Nat => ⟨[(1, .loc 1 0), (3, .bool true), (4, .sl 3 (L.map eT)), (6, .int .i64 0), (7, .int .i64 n0), (8, .vec 57 n0.toNat), (9, .int .i64 i)], [(1, .blk [.sl 2 (p0.map eP), .sl 2 (p1.map eP), .sl 2 (p2.map eP), .int .i64 n0, .int .i64 n1, .int .i64 n2] false), (57, .vec 3 1 ((seqF L 0).map eI) 0)]⟩) (fun i => n0.toNat - i) (fun i => i ≤ n0.toNat) 0 ?_ ?_
            · simp +contextual (maxSteps := 5000000) only [go_sem, ↓reduceIte, s1]
              rfl
            · intro i hi
              by_cases hlt : (i : Int) < n0
              · obtain ⟨a, ea, ha, hs⟩ := s2 i (by omega)
                have hs' : sideF ((L.getD a (0, 0, 0)).1, (L.getD a (0, 0, 0)).2.1, (L.getD a (0, 0, 0)).2.2) 0 = i := hs
                have hin : i < (seqF L 0).length := by omega
                have hin2 : i < n0.toNat := by omega
                simp +contextual (maxSteps := 5000000) only [go_sem, ↓reduceIte, Int.reduceEq, Int.reduceNe, Int.reduceLT, Int.reduceLE, Int.reduceToNat, Int.cast_ofNat_Int, hlt, hin, hin2, eI_at, ea, ha, eT_at, hs', c_of, st_of, okT, pT, dT_eT, hL9, gT, c_side, st_side, s1]
                rw [if_pos (by omega), if_pos (by omega)]
                exact ⟨inR64 (by omega) (by omega), fun _ => ⟨i + 1, by simp, by omega, by omega⟩⟩
              · simp +contextual (maxSteps := 5000000) only [go_sem, ↓reduceIte, Int.reduceEq, Int.reduceNe, Int.reduceLT, Int.reduceLE, Int.reduceToNat, Int.cast_ofNat_Int, hlt]
                exact ⟨inR64 (by omega) (by omega), fun _ => ⟨1, by omega, by omega, by omega⟩⟩
          · obtain ⟨s1, s2⟩ := hvals 1 n1 (by omega)
            simp +contextual (maxSteps := 5000000) only [go_sem, ↓reduceIte, Int.reduceEq, Int.reduceNe, Int.reduceLT, Int.reduceLE, Int.reduceToNat, Int.cast_ofNat_Int, c_Seq, st_Seq, okT, pT, dT_eT, hL9, s1, show ((n1.toNat : Nat) : Int) = n1 by omega]
            refine M_loopI (fun i : Nat => ⟨[(1, .loc 1 0), (3, .bool true), (4, .sl 3 (L.map eT)), (6, .int .i64 1), (7, .int .i64 n1), (8, .vec 57 n1.toNat), (9, .int .i64 i)], [(1, .blk [.sl 2 (p0.map eP), .sl 2 (p1.map eP), .sl 2 (p2.map eP), .int .i64 n0, .int .i64 n1, .int .i64 n2] false), (57, .vec 3 1 ((seqF L 1).map eI) 0)]⟩) (fun i => n1.toNat - i) (fun i => i ≤ n1.toNat) 0 ?_ ?_
            · simp +contextual (maxSteps := 5000000) only [go_sem, ↓reduceIte, s1]
              rfl
            · intro i hi
              by_cases hlt : (i : Int) < n1
              · obtain ⟨a, ea, ha, hs⟩ := s2 i (by omega)
                have hs' : sideF ((L.getD a (0, 0, 0)).1, (L.getD a (0, 0, 0)).2.1, (L.getD a (0, 0, 0)).2.2) 1 = i := hs
                have hin : i < (seqF L 1).length := by omega
                have hin2 : i < n1.toNat := by omega
                simp +contextual (maxSteps := 5000000) only [go_sem, ↓reduceIte, Int.reduceEq, Int.reduceNe, Int.reduceLT, Int.reduceLE, Int.reduceToNat, Int.cast_ofNat_Int, hlt, hin, hin2, eI_at, ea, ha, eT_at, hs', c_of, st_of, okT, pT, dT_eT, hL9, gT, c_side, st_side, s1]
                rw [if_pos (by omega), if_pos (by omega)]
                exact ⟨inR64 (by omega) (by omega), fun _ => ⟨i + 1, by simp, by omega, by omega⟩⟩
              · simp +contextual (maxSteps := 5000000) only [go_sem, ↓reduceIte, Int.reduceEq, Int.reduceNe, Int.reduceLT, Int.reduceLE, Int.reduceToNat, Int.cast_ofNat_Int, hlt]
                exact ⟨inR64 (by omega) (by omega), fun _ => ⟨2, by omega, by omega, by omega⟩⟩
          · obtain ⟨s1, s2⟩ := hvals 2 n2 (by omega)
            simp +contextual (maxSteps := 5000000) only [go_sem, ↓reduceIte, Int.reduceEq, Int.reduceNe, Int.reduceLT, Int.reduceLE, Int.reduceToNat, Int.cast_ofNat_Int, c_Seq, st_Seq, okT, pT, dT_eT, hL9, s1, show ((n2.toNat : Nat) : Int) = n2 by omega]
            refine M_loopI (fun i : Nat => ⟨[(1, .loc 1 0), (3, .bool true), (4, .sl 3 (L.map eT)), (6, .int .i64 2), (7, .int .i64 n2), (8, .vec 57 n2.toNat), (9, .int .i64 i)], [(1, .blk [.sl 2 (p0.map eP), .sl 2 (p1.map eP), .sl 2 (p2.map eP), .int .i64 n0, .int .i64 n1, .int .i64 n2] false), (57, .vec 3 1 ((seqF L 2).map eI) 0)]⟩) (fun i => n2.toNat - i) (fun i => i ≤ n2.toNat) 0 ?_ ?_
            · simp +contextual (maxSteps := 5000000) only [go_sem, ↓reduceIte, s1]
              rfl
            · intro i hi
              by_cases hlt : (i : Int) < n2
              · obtain ⟨a, ea, ha, hs⟩ := s2 i (by omega)
                have hs' : sideF ((L.getD a (0, 0, 0)).1, (L.getD a (0, 0, 0)).2.1, (L.getD a (0, 0, 0)).2.2) 2 = i := hs
                have hin : i < (seqF L 2).length := by omega
                have hin2 : i < n2.toNat := by omega
                simp +contextual (maxSteps := 5000000) only [go_sem, ↓reduceIte, Int.reduceEq, Int.reduceNe, Int.reduceLT, Int.reduceLE, Int.reduceToNat, Int.cast_ofNat_Int, hlt, hin, hin2, eI_at, ea, ha, eT_at, hs', c_of, st_of, okT, pT, dT_eT, hL9, gT, c_side, st_side, s1]
                rw [if_pos (by omega), if_pos (by omega)]
                exact ⟨inR64 (by omega) (by omega), fun _ => ⟨i + 1, by simp, by omega, by omega⟩⟩
              · simp +contextual (maxSteps := 5000000) only [go_sem, ↓reduceIte, Int.reduceEq, Int.reduceNe, Int.reduceLT, Int.reduceLE, Int.reduceToNat, Int.cast_ofNat_Int, hlt]
                exact ⟨inR64 (by omega) (by omega), fun _ => ⟨3, by omega, by omega, by omega⟩⟩
        · have h3' : ¬ (k : Int) < 3 := by omega
          simp +contextual (maxSteps := 5000000) only [go_sem, ↓reduceIte, h3']
  · have hd : decide (p0.length ≤ 40 ∧ p1.length ≤ 40 ∧ p2.length ≤ 40 ∧ n0 ≤ 40 ∧ n1 ≤ 40 ∧ n2 ≤ 40) = false := decide_eq_false hf
    simp +contextual (maxSteps := 5000000) only [go_sem, ↓reduceIte, c_works, st_works, c_few, st_few, dP_eP, hd]
end Go.Proofs.Ytojhjhnmfjdbeaa
