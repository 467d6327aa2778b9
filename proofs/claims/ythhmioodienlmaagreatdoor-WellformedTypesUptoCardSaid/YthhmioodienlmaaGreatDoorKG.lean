/- Facts on the types of the program: what the walks ask of them. Written by a program. -/
import Derived.Test.YthhmioodienlmaaGreatDoorKD
import Derived.Test.YthhmioodienlmaaGreatDoorProg
import Derived.Test.YthhmioodienlmaaGreatDoorKF
set_option linter.unusedSimpArgs false
set_option linter.unusedVariables false
namespace Go.Proofs.YthhmioodienlmaaGreatDoor
open Go

theorem ti3 : tinfo Tryz.prog 3 = some ⟨1, 8, false, [], 0, none, false, false, 0, some .i64, false, [.int .i64 0]⟩ := by kernel_rfl
theorem ti4 : tinfo Tryz.prog 4 = some ⟨1, 1, false, [], 0, none, false, false, 0, none, false, [.bool false]⟩ := by kernel_rfl
theorem ti5 : tinfo Tryz.prog 5 = some ⟨1, 1, false, [], 0, none, false, false, 0, some .u8, false, [.int .u8 0]⟩ := by kernel_rfl
theorem ti9 : tinfo Tryz.prog 9 = some ⟨1, 16, false, [], 0, none, false, false, 0, none, true, [.str []]⟩ := by kernel_rfl
theorem ti22 : tinfo Tryz.prog 22 = some ⟨1, 24, false, [], 40, none, true, false, 0, none, false, [.sl true []]⟩ := by kernel_rfl
theorem ti23 : tinfo Tryz.prog 23 = some ⟨1, 24, false, [], 40, none, true, false, 0, none, false, [.sl true []]⟩ := by kernel_rfl
theorem ti24 : tinfo Tryz.prog 24 = some ⟨1, 24, false, [], 9, none, true, false, 0, none, false, [.sl true []]⟩ := by kernel_rfl
theorem ti25 : tinfo Tryz.prog 25 = some ⟨1, 24, false, [], 28, none, true, false, 0, none, false, [.sl true []]⟩ := by kernel_rfl
theorem ti26 : tinfo Tryz.prog 26 = some ⟨1, 24, false, [], 65, none, true, false, 0, none, false, [.sl true []]⟩ := by kernel_rfl
theorem ti28 : tinfo Tryz.prog 28 = some ⟨5, 88, true, [(0, (1, false)), (1, (1, false)), (2, (1, false)), (3, (1, false)), (4, (1, false))], 0, none, false, false, 0, none, false, [.int .i64 0, .str [], .str [], .sl true [], .sl true []]⟩ := by kernel_rfl
theorem ti32 : tinfo Tryz.prog 32 = some ⟨1, 8, false, [], 0, none, false, false, 0, some .i64, false, [.int .i64 0]⟩ := by kernel_rfl
theorem ti35 : tinfo Tryz.prog 35 = some ⟨1, 24, false, [], 51, none, true, false, 0, none, false, [.sl true []]⟩ := by kernel_rfl
theorem ti36 : tinfo Tryz.prog 36 = some ⟨1, 24, false, [], 101, none, true, false, 0, none, false, [.sl true []]⟩ := by kernel_rfl
theorem ti37 : tinfo Tryz.prog 37 = some ⟨1, 24, false, [], 106, none, true, false, 0, none, false, [.sl true []]⟩ := by kernel_rfl
theorem ti38 : tinfo Tryz.prog 38 = some ⟨1, 24, false, [], 119, none, true, false, 0, none, false, [.sl true []]⟩ := by kernel_rfl
theorem ti40 : tinfo Tryz.prog 40 = some ⟨5, 112, true, [(0, (1, false)), (1, (1, false)), (2, (1, false)), (3, (1, false)), (4, (1, false))], 0, none, false, false, 0, none, false, [.str [], .sl true [], .sl true [], .sl true [], .sl true []]⟩ := by kernel_rfl
theorem ti49 : tinfo Tryz.prog 49 = some ⟨1, 24, false, [], 53, none, true, false, 0, none, false, [.sl true []]⟩ := by kernel_rfl
theorem ti51 : tinfo Tryz.prog 51 = some ⟨12, 216, true, [(0, (1, false)), (1, (1, false)), (2, (5, true)), (7, (5, true))], 0, none, false, false, 0, none, false, [.str [], .sl true [], .int .i64 0, .str [], .str [], .sl true [], .sl true [], .int .i64 0, .str [], .str [], .sl true [], .sl true []]⟩ := by kernel_rfl
theorem ti53 : tinfo Tryz.prog 53 = some ⟨7, 112, true, [(0, (1, false)), (1, (1, false)), (2, (5, true))], 0, none, false, false, 0, none, false, [.str [], .int .i64 0, .int .i64 0, .str [], .str [], .sl true [], .sl true []]⟩ := by kernel_rfl
theorem ti54 : tinfo Tryz.prog 54 = some ⟨1, 24, false, [], 4, none, true, false, 0, none, false, [.sl true []]⟩ := by kernel_rfl
theorem ti59 : tinfo Tryz.prog 59 = some ⟨1, 24, false, [], 24, none, true, false, 0, none, false, [.sl true []]⟩ := by kernel_rfl
theorem ti65 : tinfo Tryz.prog 65 = some ⟨7, 112, true, [(0, (1, false)), (1, (5, true)), (6, (1, false))], 0, none, false, false, 0, none, false, [.str [], .int .i64 0, .str [], .str [], .sl true [], .sl true [], .bool false]⟩ := by kernel_rfl
theorem ti75 : tinfo Tryz.prog 75 = some ⟨6, 136, true, [(0, (1, false)), (1, (5, true))], 0, none, false, false, 0, none, false, [.sl true [], .str [], .sl true [], .sl true [], .sl true [], .sl true []]⟩ := by kernel_rfl
theorem ti76 : tinfo Tryz.prog 76 = some ⟨1, 8, false, [], 0, none, false, false, 0, none, false, [.con .nilFunc]⟩ := by kernel_rfl
theorem ti77 : tinfo Tryz.prog 77 = some ⟨1, 24, false, [], 76, none, true, false, 0, none, false, [.sl true []]⟩ := by kernel_rfl
theorem ti78 : tinfo Tryz.prog 78 = some ⟨1, 8, false, [], 24, none, false, true, 9, none, false, [.con (.map none)]⟩ := by kernel_rfl
theorem ti85 : tinfo Tryz.prog 85 = some ⟨1, 8, false, [], 4, none, false, true, 9, none, false, [.con (.map none)]⟩ := by kernel_rfl
theorem ti86 : tinfo Tryz.prog 86 = some ⟨1, 8, false, [], 51, none, false, true, 9, none, false, [.con (.map none)]⟩ := by kernel_rfl
theorem ti87 : tinfo Tryz.prog 87 = some ⟨1, 8, false, [], 85, none, false, true, 9, none, false, [.con (.map none)]⟩ := by kernel_rfl
theorem ti89 : tinfo Tryz.prog 89 = some ⟨3, 40, true, [(0, (1, false)), (1, (1, false)), (2, (1, false))], 0, none, false, false, 0, none, false, [.sl true [], .con (.map none), .con (.map none)]⟩ := by kernel_rfl
theorem ti95 : tinfo Tryz.prog 95 = some ⟨1, 8, false, [], 0, none, false, false, 0, none, false, [.con .nilFunc]⟩ := by kernel_rfl
theorem ti101 : tinfo Tryz.prog 101 = some ⟨7, 128, true, [(0, (1, false)), (1, (1, false)), (2, (5, true))], 0, none, false, false, 0, none, false, [.str [], .sl true [], .int .i64 0, .str [], .str [], .sl true [], .sl true []]⟩ := by kernel_rfl
theorem ti106 : tinfo Tryz.prog 106 = some ⟨3, 48, true, [(0, (1, false)), (1, (1, false)), (2, (1, false))], 0, none, false, false, 0, none, false, [.str [], .str [], .str []]⟩ := by kernel_rfl
theorem ti113 : tinfo Tryz.prog 113 = some ⟨1, 8, false, [], 0, none, false, false, 0, none, false, [.con .nilFunc]⟩ := by kernel_rfl
theorem ti114 : tinfo Tryz.prog 114 = some ⟨4, 96, true, [], 24, some 4, false, false, 0, none, false, [.sl true [], .sl true [], .sl true [], .sl true []]⟩ := by kernel_rfl
theorem ti115 : tinfo Tryz.prog 115 = some ⟨4, 32, true, [], 113, some 4, false, false, 0, none, false, [.con .nilFunc, .con .nilFunc, .con .nilFunc, .con .nilFunc]⟩ := by kernel_rfl
theorem ti119 : tinfo Tryz.prog 119 = some ⟨2, 32, true, [(0, (1, false)), (1, (1, false))], 0, none, false, false, 0, none, false, [.str [], .str []]⟩ := by kernel_rfl
theorem ti121 : tinfo Tryz.prog 121 = some ⟨1, 24, false, [], 124, none, true, false, 0, none, false, [.sl true []]⟩ := by kernel_rfl
theorem ti124 : tinfo Tryz.prog 124 = some ⟨2, 32, true, [(0, (1, false)), (1, (1, false))], 0, none, false, false, 0, none, false, [.str [], .str []]⟩ := by kernel_rfl
theorem ti125 : tinfo Tryz.prog 125 = some ⟨1, 8, false, [], 0, none, false, false, 0, none, false, [.con .nilFunc]⟩ := by kernel_rfl
theorem ti143 : tinfo Tryz.prog 143 = some ⟨1, 8, false, [], 51, none, false, false, 0, none, false, [.con (.pointer none)]⟩ := by kernel_rfl
theorem ti144 : tinfo Tryz.prog 144 = some ⟨1, 8, false, [], 101, none, false, false, 0, none, false, [.con (.pointer none)]⟩ := by kernel_rfl
theorem ti145 : tinfo Tryz.prog 145 = some ⟨1, 8, false, [], 106, none, false, false, 0, none, false, [.con (.pointer none)]⟩ := by kernel_rfl
theorem ti147 : tinfo Tryz.prog 147 = some ⟨5, 56, true, [(0, (1, false)), (1, (1, false)), (2, (1, false)), (3, (1, false)), (4, (1, false))], 0, none, false, false, 0, none, false, [.str [], .str [], .con (.pointer none), .con (.pointer none), .con (.pointer none)]⟩ := by kernel_rfl
theorem ti157 : tinfo Tryz.prog 157 = some ⟨1, 8, false, [], 0, none, false, false, 0, none, false, [.con .nilFunc]⟩ := by kernel_rfl
theorem ti173 : tinfo Tryz.prog 173 = some ⟨1, 8, false, [], 4, none, false, true, 124, none, false, [.con (.map none)]⟩ := by kernel_rfl
theorem ti197 : tinfo Tryz.prog 197 = some ⟨1, 8, false, [], 0, none, false, false, 0, some .u64, false, [.int .u64 0]⟩ := by kernel_rfl
theorem ti206 : tinfo Tryz.prog 206 = some ⟨1, 24, false, [], 32, none, true, false, 0, none, false, [.sl true []]⟩ := by kernel_rfl
theorem ti219 : tinfo Tryz.prog 219 = some ⟨1, 24, false, [], 3, none, true, false, 0, none, false, [.sl true []]⟩ := by kernel_rfl
theorem ti229 : tinfo Tryz.prog 229 = some ⟨1, 8, false, [], 0, none, false, false, 0, some .u64, false, [.int .u64 0]⟩ := by kernel_rfl
theorem ti260 : tinfo Tryz.prog 260 = some ⟨24, 24, true, [], 5, some 24, false, false, 0, none, false, [.int .u8 0, .int .u8 0, .int .u8 0, .int .u8 0, .int .u8 0, .int .u8 0, .int .u8 0, .int .u8 0, .int .u8 0, .int .u8 0, .int .u8 0, .int .u8 0, .int .u8 0, .int .u8 0, .int .u8 0, .int .u8 0, .int .u8 0, .int .u8 0, .int .u8 0, .int .u8 0, .int .u8 0, .int .u8 0, .int .u8 0, .int .u8 0]⟩ := by kernel_rfl
theorem ti262 : tinfo Tryz.prog 262 = some ⟨1, 24, false, [], 5, none, true, false, 0, none, false, [.sl true []]⟩ := by kernel_rfl
theorem ti273 : tinfo Tryz.prog 273 = some ⟨20, 160, true, [], 197, some 20, false, false, 0, none, false, [.int .u64 0, .int .u64 0, .int .u64 0, .int .u64 0, .int .u64 0, .int .u64 0, .int .u64 0, .int .u64 0, .int .u64 0, .int .u64 0, .int .u64 0, .int .u64 0, .int .u64 0, .int .u64 0, .int .u64 0, .int .u64 0, .int .u64 0, .int .u64 0, .int .u64 0, .int .u64 0]⟩ := by kernel_rfl
theorem ti274 : tinfo Tryz.prog 274 = some ⟨65, 65, true, [], 5, some 65, false, false, 0, none, false, [.int .u8 0, .int .u8 0, .int .u8 0, .int .u8 0, .int .u8 0, .int .u8 0, .int .u8 0, .int .u8 0, .int .u8 0, .int .u8 0, .int .u8 0, .int .u8 0, .int .u8 0, .int .u8 0, .int .u8 0, .int .u8 0, .int .u8 0, .int .u8 0, .int .u8 0, .int .u8 0, .int .u8 0, .int .u8 0, .int .u8 0, .int .u8 0, .int .u8 0, .int .u8 0, .int .u8 0, .int .u8 0, .int .u8 0, .int .u8 0, .int .u8 0, .int .u8 0, .int .u8 0, .int .u8 0, .int .u8 0, .int .u8 0, .int .u8 0, .int .u8 0, .int .u8 0, .int .u8 0, .int .u8 0, .int .u8 0, .int .u8 0, .int .u8 0, .int .u8 0, .int .u8 0, .int .u8 0, .int .u8 0, .int .u8 0, .int .u8 0, .int .u8 0, .int .u8 0, .int .u8 0, .int .u8 0, .int .u8 0, .int .u8 0, .int .u8 0, .int .u8 0, .int .u8 0, .int .u8 0, .int .u8 0, .int .u8 0, .int .u8 0, .int .u8 0, .int .u8 0]⟩ := by kernel_rfl
theorem ti279 : tinfo Tryz.prog 279 = some ⟨256, 256, true, [], 5, some 256, false, false, 0, none, false, [.int .u8 0, .int .u8 0, .int .u8 0, .int .u8 0, .int .u8 0, .int .u8 0, .int .u8 0, .int .u8 0, .int .u8 0, .int .u8 0, .int .u8 0, .int .u8 0, .int .u8 0, .int .u8 0, .int .u8 0, .int .u8 0, .int .u8 0, .int .u8 0, .int .u8 0, .int .u8 0, .int .u8 0, .int .u8 0, .int .u8 0, .int .u8 0, .int .u8 0, .int .u8 0, .int .u8 0, .int .u8 0, .int .u8 0, .int .u8 0, .int .u8 0, .int .u8 0, .int .u8 0, .int .u8 0, .int .u8 0, .int .u8 0, .int .u8 0, .int .u8 0, .int .u8 0, .int .u8 0, .int .u8 0, .int .u8 0, .int .u8 0, .int .u8 0, .int .u8 0, .int .u8 0, .int .u8 0, .int .u8 0, .int .u8 0, .int .u8 0, .int .u8 0, .int .u8 0, .int .u8 0, .int .u8 0, .int .u8 0, .int .u8 0, .int .u8 0, .int .u8 0, .int .u8 0, .int .u8 0, .int .u8 0, .int .u8 0, .int .u8 0, .int .u8 0, .int .u8 0, .int .u8 0, .int .u8 0, .int .u8 0, .int .u8 0, .int .u8 0, .int .u8 0, .int .u8 0, .int .u8 0, .int .u8 0, .int .u8 0, .int .u8 0, .int .u8 0, .int .u8 0, .int .u8 0, .int .u8 0, .int .u8 0, .int .u8 0, .int .u8 0, .int .u8 0, .int .u8 0, .int .u8 0, .int .u8 0, .int .u8 0, .int .u8 0, .int .u8 0, .int .u8 0, .int .u8 0, .int .u8 0, .int .u8 0, .int .u8 0, .int .u8 0, .int .u8 0, .int .u8 0, .int .u8 0, .int .u8 0, .int .u8 0, .int .u8 0, .int .u8 0, .int .u8 0, .int .u8 0, .int .u8 0, .int .u8 0, .int .u8 0, .int .u8 0, .int .u8 0, .int .u8 0, .int .u8 0, .int .u8 0, .int .u8 0, .int .u8 0, .int .u8 0, .int .u8 0, .int .u8 0, .int .u8 0, .int .u8 0, .int .u8 0, .int .u8 0, .int .u8 0, .int .u8 0, .int .u8 0, .int .u8 0, .int .u8 0, .int .u8 0, .int .u8 0, .int .u8 0, .int .u8 0, .int .u8 0, .int .u8 0, .int .u8 0, .int .u8 0, .int .u8 0, .int .u8 0, .int .u8 0, .int .u8 0, .int .u8 0, .int .u8 0, .int .u8 0, .int .u8 0, .int .u8 0, .int .u8 0, .int .u8 0, .int .u8 0, .int .u8 0, .int .u8 0, .int .u8 0, .int .u8 0, .int .u8 0, .int .u8 0, .int .u8 0, .int .u8 0, .int .u8 0, .int .u8 0, .int .u8 0, .int .u8 0, .int .u8 0, .int .u8 0, .int .u8 0, .int .u8 0, .int .u8 0, .int .u8 0, .int .u8 0, .int .u8 0, .int .u8 0, .int .u8 0, .int .u8 0, .int .u8 0, .int .u8 0, .int .u8 0, .int .u8 0, .int .u8 0, .int .u8 0, .int .u8 0, .int .u8 0, .int .u8 0, .int .u8 0, .int .u8 0, .int .u8 0, .int .u8 0, .int .u8 0, .int .u8 0, .int .u8 0, .int .u8 0, .int .u8 0, .int .u8 0, .int .u8 0, .int .u8 0, .int .u8 0, .int .u8 0, .int .u8 0, .int .u8 0, .int .u8 0, .int .u8 0, .int .u8 0, .int .u8 0, .int .u8 0, .int .u8 0, .int .u8 0, .int .u8 0, .int .u8 0, .int .u8 0, .int .u8 0, .int .u8 0, .int .u8 0, .int .u8 0, .int .u8 0, .int .u8 0, .int .u8 0, .int .u8 0, .int .u8 0, .int .u8 0, .int .u8 0, .int .u8 0, .int .u8 0, .int .u8 0, .int .u8 0, .int .u8 0, .int .u8 0, .int .u8 0, .int .u8 0, .int .u8 0, .int .u8 0, .int .u8 0, .int .u8 0, .int .u8 0, .int .u8 0, .int .u8 0, .int .u8 0, .int .u8 0, .int .u8 0, .int .u8 0, .int .u8 0, .int .u8 0, .int .u8 0, .int .u8 0, .int .u8 0, .int .u8 0, .int .u8 0, .int .u8 0, .int .u8 0, .int .u8 0, .int .u8 0, .int .u8 0, .int .u8 0, .int .u8 0, .int .u8 0, .int .u8 0, .int .u8 0, .int .u8 0, .int .u8 0, .int .u8 0, .int .u8 0]⟩ := by kernel_rfl
theorem ti281 : tinfo Tryz.prog 281 = some ⟨2, 2, true, [(0, (1, false)), (1, (1, false))], 0, none, false, false, 0, none, false, [.int .u8 0, .int .u8 0]⟩ := by kernel_rfl
theorem ti282 : tinfo Tryz.prog 282 = some ⟨32, 32, true, [], 281, some 16, false, false, 0, none, false, [.int .u8 0, .int .u8 0, .int .u8 0, .int .u8 0, .int .u8 0, .int .u8 0, .int .u8 0, .int .u8 0, .int .u8 0, .int .u8 0, .int .u8 0, .int .u8 0, .int .u8 0, .int .u8 0, .int .u8 0, .int .u8 0, .int .u8 0, .int .u8 0, .int .u8 0, .int .u8 0, .int .u8 0, .int .u8 0, .int .u8 0, .int .u8 0, .int .u8 0, .int .u8 0, .int .u8 0, .int .u8 0, .int .u8 0, .int .u8 0, .int .u8 0, .int .u8 0]⟩ := by kernel_rfl
theorem ti283 : tinfo Tryz.prog 283 = some ⟨32, 32, true, [], 5, some 32, false, false, 0, none, false, [.int .u8 0, .int .u8 0, .int .u8 0, .int .u8 0, .int .u8 0, .int .u8 0, .int .u8 0, .int .u8 0, .int .u8 0, .int .u8 0, .int .u8 0, .int .u8 0, .int .u8 0, .int .u8 0, .int .u8 0, .int .u8 0, .int .u8 0, .int .u8 0, .int .u8 0, .int .u8 0, .int .u8 0, .int .u8 0, .int .u8 0, .int .u8 0, .int .u8 0, .int .u8 0, .int .u8 0, .int .u8 0, .int .u8 0, .int .u8 0, .int .u8 0, .int .u8 0]⟩ := by kernel_rfl
theorem ti284 : tinfo Tryz.prog 284 = some ⟨64, 64, true, [], 5, some 64, false, false, 0, none, false, [.int .u8 0, .int .u8 0, .int .u8 0, .int .u8 0, .int .u8 0, .int .u8 0, .int .u8 0, .int .u8 0, .int .u8 0, .int .u8 0, .int .u8 0, .int .u8 0, .int .u8 0, .int .u8 0, .int .u8 0, .int .u8 0, .int .u8 0, .int .u8 0, .int .u8 0, .int .u8 0, .int .u8 0, .int .u8 0, .int .u8 0, .int .u8 0, .int .u8 0, .int .u8 0, .int .u8 0, .int .u8 0, .int .u8 0, .int .u8 0, .int .u8 0, .int .u8 0, .int .u8 0, .int .u8 0, .int .u8 0, .int .u8 0, .int .u8 0, .int .u8 0, .int .u8 0, .int .u8 0, .int .u8 0, .int .u8 0, .int .u8 0, .int .u8 0, .int .u8 0, .int .u8 0, .int .u8 0, .int .u8 0, .int .u8 0, .int .u8 0, .int .u8 0, .int .u8 0, .int .u8 0, .int .u8 0, .int .u8 0, .int .u8 0, .int .u8 0, .int .u8 0, .int .u8 0, .int .u8 0, .int .u8 0, .int .u8 0, .int .u8 0, .int .u8 0]⟩ := by kernel_rfl
theorem ek21 : eqK Tryz.prog 21 = .no := by kernel_rfl
theorem ek2 : eqK Tryz.prog 2 = .no := by kernel_rfl
theorem ek26 : eqK Tryz.prog 26 = .sl := by kernel_rfl
theorem ek49 : eqK Tryz.prog 49 = .sl := by kernel_rfl
theorem ek229 : eqK Tryz.prog 229 = .no := by kernel_rfl
theorem ek4 : eqK Tryz.prog 4 = .bool := by kernel_rfl
theorem ek197 : eqK Tryz.prog 197 = .no := by kernel_rfl
theorem ek195 : eqK Tryz.prog 195 = .no := by kernel_rfl
theorem ek141 : eqK Tryz.prog 141 = .no := by kernel_rfl
theorem ek38 : eqK Tryz.prog 38 = .sl := by kernel_rfl
theorem ek37 : eqK Tryz.prog 37 = .sl := by kernel_rfl
theorem ek36 : eqK Tryz.prog 36 = .sl := by kernel_rfl
theorem ek35 : eqK Tryz.prog 35 = .sl := by kernel_rfl
theorem ek25 : eqK Tryz.prog 25 = .sl := by kernel_rfl
theorem ek5 : eqK Tryz.prog 5 = .no := by kernel_rfl
theorem ek144 : eqK Tryz.prog 144 = .ptr := by kernel_rfl
theorem ek145 : eqK Tryz.prog 145 = .ptr := by kernel_rfl
theorem ek187 : eqK Tryz.prog 187 = .no := by kernel_rfl
theorem ek24 : eqK Tryz.prog 24 = .sl := by kernel_rfl
theorem ek143 : eqK Tryz.prog 143 = .ptr := by kernel_rfl
theorem ek23 : eqK Tryz.prog 23 = .sl := by kernel_rfl
theorem ek9 : eqK Tryz.prog 9 = .no := by kernel_rfl
theorem ek32 : eqK Tryz.prog 32 = .no := by kernel_rfl
theorem ek3 : eqK Tryz.prog 3 = .no := by kernel_rfl
theorem mk173 : mapK Tryz.prog 173 = .strs 2 := by kernel_rfl
theorem mk87 : mapK Tryz.prog 87 = .str := by kernel_rfl
theorem mk86 : mapK Tryz.prog 86 = .str := by kernel_rfl
theorem mk85 : mapK Tryz.prog 85 = .str := by kernel_rfl
theorem mk78 : mapK Tryz.prog 78 = .str := by kernel_rfl
theorem ck5_195 : cvK Tryz.prog 5 195 = .int .u32 := by kernel_rfl
theorem ck5_21 : cvK Tryz.prog 5 21 = .int .i32 := by kernel_rfl
theorem ck3_197 : cvK Tryz.prog 3 197 = .int .u64 := by kernel_rfl
theorem ck197_195 : cvK Tryz.prog 197 195 = .int .u32 := by kernel_rfl
theorem ck262_9 : cvK Tryz.prog 262 9 = .bytes := by kernel_rfl
theorem ck2_197 : cvK Tryz.prog 2 197 = .int .u64 := by kernel_rfl
theorem ck197_5 : cvK Tryz.prog 197 5 = .int .u8 := by kernel_rfl
theorem ck5_3 : cvK Tryz.prog 5 3 = .int .i64 := by kernel_rfl
theorem ck195_5 : cvK Tryz.prog 195 5 = .int .u8 := by kernel_rfl
theorem ck141_3 : cvK Tryz.prog 141 3 = .int .i64 := by kernel_rfl
theorem ck3_229 : cvK Tryz.prog 3 229 = .int .u64 := by kernel_rfl
theorem ck141_195 : cvK Tryz.prog 141 195 = .int .u32 := by kernel_rfl
theorem ck3_141 : cvK Tryz.prog 3 141 = .int .u64 := by kernel_rfl
theorem ni262 : notInt Tryz.prog 262 = true := by kernel_rfl
theorem ni121 : notInt Tryz.prog 121 = true := by kernel_rfl
theorem ni49 : notInt Tryz.prog 49 = true := by kernel_rfl
theorem ni3 : notInt Tryz.prog 3 = false := by kernel_rfl
theorem ni38 : notInt Tryz.prog 38 = true := by kernel_rfl
theorem ni37 : notInt Tryz.prog 37 = true := by kernel_rfl
theorem ni36 : notInt Tryz.prog 36 = true := by kernel_rfl
theorem ni35 : notInt Tryz.prog 35 = true := by kernel_rfl
theorem ni26 : notInt Tryz.prog 26 = true := by kernel_rfl
theorem ni59 : notInt Tryz.prog 59 = true := by kernel_rfl
theorem ni24 : notInt Tryz.prog 24 = true := by kernel_rfl
theorem ni25 : notInt Tryz.prog 25 = true := by kernel_rfl
theorem ni23 : notInt Tryz.prog 23 = true := by kernel_rfl
theorem mixed : Tryz.prog.follows .mixedOrders = true := by kernel_rfl

attribute [go_sem] ti3 ti4 ti5 ti9 ti22 ti23 ti24 ti25 ti26 ti28 ti32 ti35 ti36 ti37 ti38 ti40 ti49 ti51 ti53 ti54 ti59 ti65 ti75 ti76 ti77 ti78 ti85 ti86 ti87 ti89 ti95 ti101 ti106 ti113 ti114 ti115 ti119 ti121 ti124 ti125 ti143 ti144 ti145 ti147 ti157 ti173 ti197 ti206 ti219 ti229 ti260 ti262 ti273 ti274 ti279 ti281 ti282 ti283 ti284 ek21 ek2 ek26 ek49 ek229 ek4 ek197 ek195 ek141 ek38 ek37 ek36 ek35 ek25 ek5 ek144 ek145 ek187 ek24 ek143 ek23 ek9 ek32 ek3 ck5_195 ck5_21 ck3_197 ck197_195 ck262_9 ck2_197 ck197_5 ck5_3 ck195_5 ck141_3 ck3_229 ck141_195 ck3_141 ni262 ni121 ni49 ni3 ni38 ni37 ni36 ni35 ni26 ni59 ni24 ni25 ni23 mk173 mk87 mk86 mk85 mk78

end Go.Proofs.YthhmioodienlmaaGreatDoor

/- Helpers for walks: loops with known states, weakening of frames, slices built, sums in range. -/
namespace Go.Proofs.YthhmioodienlmaaGreatDoor
open Go

variable {P : Program} {G : List GI} {T : Tips} {K : Kmem} {w : World} {H H' : List HO}

theorem lesA_nil : lesA [] [] := by simp only [lesA]
theorem lesA_cons {a b : AV} {l l' : List AV} (h : a.le b) (hs : lesA l l') : lesA (a :: l) (b :: l') := by simp only [lesA]; exact ⟨b, l', rfl, h, hs⟩
theorem lesA_refl : ∀ l : List AV, lesA l l
  | [] => lesA_nil
  | a :: l => lesA_cons (AV.le_refl a) (lesA_refl l)

/-- a loop, its state at a round's head a function of an index -/
theorem awp_loop {ι : Type} {m : Bool} {N : Nat} {c : Code} {Q : AQ} {ts : List AV} {H : List HO} (S : ι → List AV) (HS : ι → List HO) (μ : ι → Nat) (ok : ι → Prop) (i0 : ι) (hok : ok i0) (h0 : Weak N ts H (S i0) (HS i0))
    (hs : ∀ i, ok i → awp P m N c (athen (fun ts' H' => ∃ i', μ i' < μ i ∧ ok i' ∧ Weak N ts' H' (S i') (HS i')) Q) (S i) (HS i)) : awp P m N (.loop c) Q ts H :=
  awp_inv (fun k ts H => ∃ i, ok i ∧ μ i = k ∧ ts = S i ∧ H = HS i) (μ i0) ⟨_, _, h0, i0, hok, rfl, rfl, rfl⟩ (by
    rintro k ts H ⟨i, h1, rfl, rfl, rfl⟩
    refine awp_mono _ (hs i h1) fun e ts H h => ?_
    cases e with
    | normal =>
      obtain ⟨i', h1, h2, h3⟩ := h
      exact ⟨μ i', _, _, h1, h3, i', h2, rfl, rfl, rfl⟩
    | _ => exact h)

theorem wrap_nat {i : Nat} (h : i ≤ 4611686018427387904) : IntKind.i64.wrap (i : Int) = i := wrap_i64 (by omega) (by omega)
theorem wrap_succ {i : Nat} (h : i ≤ 4611686018427387903) : IntKind.i64.wrap ((i : Int) + 1) = ((i + 1 : Nat) : Int) := by rw [wrap_i64 (by omega) (by omega)]; omega
theorem wrap_add {i j : Nat} (h : i + j ≤ 4611686018427387904) : IntKind.i64.wrap ((i : Int) + (j : Int)) = ((i + j : Nat) : Int) := by rw [wrap_i64 (by omega) (by omega)]; omega
theorem Int.ofNat_toNat' {i : Nat} : ((i : Int)).toNat = i := by omega

theorem oBuildSlice_0 {m : Bool} {n b el : Nat} {ag isM : Bool} {fs : List (Nat × Nat × Bool)} {al : Option Nat} {ky : TypeId} {ki : Option IntKind} {st : Bool} {z : List D} {e : TInf} :
    oBuildSlice m (some ⟨n, b, ag, fs, el, al, true, isM, ky, ki, st, z⟩) (some e) 0 [] H = some (.d (.sl true []), H) := by
  simp [oBuildSlice, fillA, zerosA, toDs, chunk]

theorem fill_one {e : TInf} {cs : List AV} (hz : e.zero.length = e.size) (hl : cs.length = e.size) : fillA (fun i => some (i * e.size, e.size)) (zerosA e 1) [(0, .agg cs)] = if cs.all AV.one = true then some cs else none := by
  by_cases h : cs.all AV.one = true
  · simp [fillA, AV.cells?, h, zerosA, hz, hl, splice]
  · simp [fillA, AV.cells?, h]

theorem oBuildSlice_1 {n b el : Nat} {ag isM : Bool} {fs : List (Nat × Nat × Bool)} {al : Option Nat} {ky : TypeId} {ki : Option IntKind} {st : Bool} {z : List D} {e : TInf} {ds : List D} (hz : e.zero.length = e.size) (hl : ds.length = e.size) (hs : e.size ≤ 16777216) :
    oBuildSlice false (some ⟨n, b, ag, fs, el, al, true, isM, ky, ki, st, z⟩) (some e) 1 [(0, .agg (ds.map .d))] H = some (.d (.sl true [ds]), H) := by
  have hd : toDs (ds.map AV.d) = some ds := by
    clear hl
    induction ds with
    | nil => rfl
    | cons d ds ih => simp [toDs, AV.toD, ih]
  have ho : (ds.map AV.d).all AV.one = true := by simp [AV.one]
  have hf := fill_one (e := e) (cs := ds.map .d) hz (by simpa using hl)
  simp only [ho, if_true] at hf
  simp only [oBuildSlice, hf, hd]
  simp [hl, hs, chunk]; rw [← hl]; simp [lim]

theorem oBuildSlice_1d {n b el : Nat} {ag isM : Bool} {fs : List (Nat × Nat × Bool)} {al : Option Nat} {ky : TypeId} {ki : Option IntKind} {st : Bool} {z : List D} {e : TInf} {x : D} (hz : e.zero.length = e.size) (hl : e.size = 1) :
    oBuildSlice false (some ⟨n, b, ag, fs, el, al, true, isM, ky, ki, st, z⟩) (some e) 1 [(0, .d x)] H = some (.d (.sl true [[x]]), H) := by
  have hz1 : e.zero.length = 1 := by omega
  obtain ⟨z0, hz0⟩ := List.length_eq_one_iff.1 hz1
  simp [oBuildSlice, fillA, AV.cells?, zerosA, hz0, hl, splice, toDs, AV.toD, chunk, lim]

theorem aAppend_nil {te : TInf} {b : AV} {xs : List (List D)} {K : AV → List HO → Prop} (hb : elems? H b = some xs) (hx : ∀ x ∈ xs, x.length = te.size) (hs : te.bytes ≤ 32768) (hl : xs.length ≤ lim) (h : K (.vec H.length xs.length xs) (H ++ [.tip xs.length te.size])) :
    aAppend false (some te) (.d (.sl true [])) b H K := by
  simp only [aAppend, hb]
  exact ⟨hx, hs, by simp, by simpa using hl, by rw [if_neg (by simp)]; exact .inl (by simpa using h)⟩
theorem aAppend_vec {te : TInf} {b : AV} {id pos : Nat} {es xs : List (List D)} {K : AV → List HO → Prop} (hb : elems? H b = some xs) (hx : ∀ x ∈ xs, x.length = te.size) (hs : te.bytes ≤ 32768) (hH : H[id]? = some (.tip pos te.size)) (hl : es.length + xs.length ≤ lim)
    (h : K (.vec id (pos + xs.length) (es ++ xs)) (H.set id (.tip (pos + xs.length) te.size))) : aAppend false (some te) (.vec id pos es) b H K := by
  simp only [aAppend, hb]
  exact ⟨hx, hs, hH, by simpa using hl, h⟩

theorem aparts_one {ts : List AV} {i : Nat} {x : Operand} : aparts ts #[(i, x)] = [(i, aev ts x)] := by rfl
theorem aparts_two {ts : List AV} {i j : Nat} {x y : Operand} : aparts ts #[(i, x), (j, y)] = [(i, aev ts x), (j, aev ts y)] := by rfl
theorem aevs_nil {ts : List AV} : aevs ts #[] = [] := by rfl
theorem aevs_one {ts : List AV} {x : Operand} : aevs ts #[x] = [aev ts x] := by rfl
theorem aevs_two {ts : List AV} {x y : Operand} : aevs ts #[x, y] = [aev ts x, aev ts y] := by rfl
theorem aevs_three {ts : List AV} {x y z : Operand} : aevs ts #[x, y, z] = [aev ts x, aev ts y, aev ts z] := by rfl
theorem aevs_four {ts : List AV} {x y z u : Operand} : aevs ts #[x, y, z, u] = [aev ts x, aev ts y, aev ts z, aev ts u] := by rfl
theorem elems_sl {c : Bool} {es : List (List D)} : elems? H (.d (.sl c es)) = some es := by rfl
theorem oBox_agg {l : List D} : oBox (.agg (l.map .d)) H = some (.ptr H.length 0, H ++ [.cells (l.map .d)]) := by simp [oBox, AV.cells?, AV.one]
theorem oBox_agg0 {cs : List AV} : oBox (.agg cs) H = if cs.all AV.one = true then some (.ptr H.length 0, H ++ [.cells cs]) else none := by
  by_cases h : cs.all AV.one = true <;> simp [oBox, AV.cells?, h]
theorem one_d {x : D} : AV.one (.d x) = true := by rfl
theorem one_ptr {i j : Nat} : AV.one (.ptr i j) = true := by rfl
theorem one_fn {f : Fn} {a b : List AV} : AV.one (.fn f a b) = true := by rfl
theorem one_map {i : Nat} : AV.one (.map i) = true := by rfl
theorem one_vec {i j : Nat} {es : List (List D)} : AV.one (.vec i j es) = true := by rfl
theorem one_arr {i j k l : Nat} : AV.one (.arr i j k l) = true := by rfl
theorem one_row {i j : Nat} : AV.one (.row i j) = true := by rfl
theorem one_iter {i : Nat} : AV.one (.iter i) = true := by rfl
theorem oBox_fn {f : Fn} {a b : List AV} : oBox (.fn f a b) H = some (.ptr H.length 0, H ++ [.cells [.fn f a b]]) := by rfl
theorem oBox_map {i : Nat} : oBox (.map i) H = some (.ptr H.length 0, H ++ [.cells [.map i]]) := by rfl
theorem oBox_iter {i : Nat} : oBox (.iter i) H = some (.ptr H.length 0, H ++ [.cells [.iter i]]) := by rfl
theorem oBox_d {x : D} : oBox (.d x) H = some (.ptr H.length 0, H ++ [.cells [.d x]]) := by rfl
theorem oFieldAddr_h0 {n b el : Nat} {ag isS isM : Bool} {fs : List (Nat × Nat × Bool)} {al : Option Nat} {ky : TypeId} {ki : Option IntKind} {st : Bool} {z : List D} {id off : Nat} {f : Nat} :
    oFieldAddr (some ⟨n, b, ag, fs, el, al, isS, isM, ky, ki, st, z⟩) (.ptr id off) f H = match hcells H id, fs[f]? with | some _, some (o, s, _) => if s = 0 then none else some (.ptr id (off + o), H) | _, _ => none := by rfl
theorem oFieldAddr_d0 {n b el : Nat} {ag isS isM : Bool} {fs : List (Nat × Nat × Bool)} {al : Option Nat} {ky : TypeId} {ki : Option IntKind} {st : Bool} {z : List D} {cs : List D} {f : Nat} :
    oFieldAddr (some ⟨n, b, ag, fs, el, al, isS, isM, ky, ki, st, z⟩) (.d (.ptr cs)) f H = match fs[f]? with | some (o, s, _) => if s = 0 then none else some (.d (.ptr (cs.drop o)), H) | none => none := by rfl
theorem oLoad_h0 {n b el : Nat} {isS isM ag : Bool} {fs : List (Nat × Nat × Bool)} {al : Option Nat} {ky : TypeId} {ki : Option IntKind} {st : Bool} {z : List D} {id off : Nat} :
    oLoad (some ⟨n, b, ag, fs, el, al, isS, isM, ky, ki, st, z⟩) (.ptr id off) H = match hcells H id with | some cs => if off + n ≤ cs.length then (AV.ofCells ag ((cs.drop off).take n)).map (·, H) else none | none => none := by rfl
theorem ofCells_true {cs : List AV} : AV.ofCells true cs = some (.agg cs) := by rfl
theorem ofCells_one {c : AV} : AV.ofCells false [c] = some c := by rfl

theorem aparts_nil {ts : List AV} : aparts ts #[] = [] := by rfl


theorem oLoad_d0 {n b el : Nat} {isS isM ag : Bool} {fs : List (Nat × Nat × Bool)} {al : Option Nat} {ky : TypeId} {ki : Option IntKind} {st : Bool} {z : List D} {cs : List D} :
    oLoad (some ⟨n, b, ag, fs, el, al, isS, isM, ky, ki, st, z⟩) (.d (.ptr cs)) H = if n ≤ cs.length then (AV.ofCells ag ((cs.take n).map .d)).map (·, H) else none := by rfl
/-- the loop's next state -/
theorem next_les {ι : Type} {N : Nat} {ts : List AV} {H : List HO} {S : ι → List AV} {HS : ι → List HO} {μ : ι → Nat} {ok : ι → Prop} {i : ι} (i' : ι) (h1 : μ i' < μ i) (h2 : ok i') (h3 : HS i' = H) (h4 : lesA ts (S i')) :
    ∃ i', μ i' < μ i ∧ ok i' ∧ Weak N ts H (S i') (HS i') := ⟨i', h1, h2, by rw [h3]; exact Weak.les h4⟩

attribute [go_sem] oLoad_d0 true_and oBuildSlice_0 aparts_nil aparts_one aparts_two aevs_nil aevs_one aevs_two aevs_three aevs_four oBox_agg oBox_agg0 oBox_d oBox_fn oBox_map oBox_iter one_d one_ptr one_fn one_map one_vec one_arr one_row one_iter List.all_cons List.all_nil Bool.and_true Bool.true_and Bool.and_self List.map_nil List.map_cons List.length_nil List.length_cons List.nil_append List.cons_append Nat.zero_add Nat.reduceAdd oFieldAddr_h0 oFieldAddr_d0 oLoad_h0 ofCells_true ofCells_one Nat.reduceEqDiff Nat.succ_ne_self List.drop_zero List.drop_succ_cons List.take_succ_cons List.take_zero Nat.reduceLeDiff

/-! the start of a walk -/
theorem go_start_len0 : ([] : List AV).length = 0 := by rfl
theorem go_start_nil {l : List AV} : [] ++ l = l := by rfl
theorem go_start_cons {a : AV} {l l' : List AV} : (a :: l) ++ l' = a :: (l ++ l') := by rfl
theorem go_start_rep0 {a : AV} : List.replicate 0 a = [] := by rfl

theorem cnd_lt {m : Bool} {N : Nat} {a b : Code} {Q : AQ} {ts : List AV} {H : List HO} {i n : Nat} (ha : i < n → awp P m N a Q ts H) (hb : n ≤ i → awp P m N b Q ts H) : cnd P m N a b Q ts H (.d (.bool (decide ((i : Int) < (n : Int))))) :=
  cnd_if (fun h => ha (by omega)) (fun h => hb (by omega))

/-- a pure result -/
theorem ret_pure {rs : List ResultVar} {R : AV → List HO → Prop} {ts : List AV} {H : List HO} {x x' : AV} (hx : ares P rs ts H = some x) (hp : x.pure? = some x') (hf : x'.free = true) (hr : R x' []) : aret P rs 0 R .ret ts H :=
  ret_ok hx x' [] (Weak.pures (by simp only [AV.pures?, hp]; rfl) (by simp [AV.frees, hf])) hr
theorem ret_pure' {rs : List ResultVar} {R : AV → List HO → Prop} {ts : List AV} {H : List HO} {x x' : AV} (hx : ares P rs ts H = some x) (hp : x.pure? = some x') (hf : x'.free = true) (hr : R x' []) : aret P rs 0 R .normal ts H :=
  ret_ok' hx x' [] (Weak.pures (by simp only [AV.pures?, hp]; rfl) (by simp [AV.frees, hf])) hr

/-- a contract of a function that computes -/
def Fun (P : Program) (f : FuncId) (args : List AV) (v : AV) : Prop := ACalls P f args [] (fun x _ => x = v)

theorem Fun.call {f : FuncId} {args ps : List AV} {v : AV} {Kt : AV → List HO → Prop} (h : Fun P f ps v) (hp : AV.pures? args = some ps) (hf : v.free = true) (hk : Kt v H) : ACalls P f args H Kt :=
  ACalls.pure h hp (fun x _ hx => by subst hx; exact ⟨hf, hk⟩)
theorem Fun.callX {f : FuncId} {args ps : List AV} {v : AV} {Kt : AV → List HO → Prop} (h : Fun P f ps v) (hp : AV.pures? args = some ps) (hf : v.free = true) (hk : Kt v H) : callX P f args H Kt :=
  callX_pure h hp hf hk

/-! ### the data -/
def Ty.parts (t : Ty) : List Ty := t.args ++ t.fields.map Fd.type
theorem Ty.encL_eq : ∀ l : List Ty, Ty.encL l = l.map Ty.enc
  | [] => rfl
  | t :: l => by simp only [Ty.encL, List.map_cons, Ty.encL_eq l]
theorem Fd.encL_eq : ∀ l : List Fd, Fd.encL l = l.map Fd.enc
  | [] => rfl
  | t :: l => by simp only [Fd.encL, List.map_cons, Fd.encL_eq l]
theorem Ty.enc_eq (t : Ty) : t.enc = [.int .i64 t.kind, .str t.module, .str t.name, .sl false (t.args.map Ty.enc), .sl false (t.fields.map Fd.enc)] := by
  cases t; simp only [Ty.enc, Ty.encL_eq, Fd.encL_eq, Ty.kind, Ty.module, Ty.name, Ty.args, Ty.fields]
theorem Fd.enc_eq (f : Fd) : f.enc = .str f.name :: (f.type.enc ++ [.bool f.opt]) := by cases f; simp only [Fd.enc, Fd.name, Fd.type, Fd.opt]
theorem Ty.enc_len (t : Ty) : t.enc.length = 5 := by cases t; rfl
theorem Fd.enc_len (f : Fd) : f.enc.length = 7 := by rw [Fd.enc_eq]; simp [Ty.enc_len]
theorem Ty.enc_take (t : Ty) (l : List D) : (t.enc ++ l).take 5 = t.enc := by rw [List.take_append_of_le_length (by rw [Ty.enc_len]; exact Nat.le_refl _), List.take_of_length_le (by rw [Ty.enc_len]; exact Nat.le_refl _)]
theorem Ty.encs_len (l : List Ty) : ∀ x ∈ l.map Ty.enc, x.length = 5 := by intro x hx; obtain ⟨t, _, rfl⟩ := List.mem_map.1 hx; exact t.enc_len
theorem Fd.encs_len (l : List Fd) : ∀ x ∈ l.map Fd.enc, x.length = 7 := by intro x hx; obtain ⟨t, _, rfl⟩ := List.mem_map.1 hx; exact t.enc_len
theorem map_at {α β : Type} (f : α → β) {l : List α} {i : Nat} (h : i < l.length) : (l.map f)[((i : Nat) : Int).toNat]? = some (f l[i]) := by simp [h]
theorem at_nat {α : Type} {l : List α} {i : Nat} : l[((i : Nat) : Int).toNat]? = l[i]? := by simp
theorem Ty.enc_take' (t : Ty) (l : List D) : (t.enc ++ l).take 5 = t.enc := t.enc_take l
theorem Ty.enc_le (t : Ty) (l : List D) : 5 ≤ (t.enc ++ l).length := by simp [Ty.enc_len]
theorem le_true {a b : Nat} (h : a ≤ b) : (a ≤ b) = True := by simp [h]

theorem ret_fun {rs : List ResultVar} {ts : List AV} {H : List HO} {x v : AV} (hx : ares P rs ts H = some x) (hp : x.pure? = some v) (hf : v.free = true) : aret P rs 0 (fun x _ => x = v) .ret ts H := ret_pure hx hp hf rfl
theorem ret_fun' {rs : List ResultVar} {ts : List AV} {H : List HO} {x v : AV} (hx : ares P rs ts H = some x) (hp : x.pure? = some v) (hf : v.free = true) : aret P rs 0 (fun x _ => x = v) .normal ts H := ret_pure' hx hp hf rfl

theorem resv_of {r : Option AV} {x : AV} {K : AV → List HO → Prop} (h : r = some x) (hk : K x H) : resv r H K := by rw [h]; exact hk
theorem res_of {r : Res} {x : AV} {H' : List HO} {K : AV → List HO → Prop} (h : r = some (x, H')) (hk : K x H') : res r K := by rw [h]; exact hk

theorem Weak.ld {N : Nat} {ts ts' : List AV} (n : Nat) (h : lesA ts ts') (hN : N ≤ n) (hn : n ≤ H.length) (hts : AV.inSs (· < n) ts') (hH : ∀ o ∈ H.take n, o.inS (· < n)) : Weak N ts H ts' (H.take n) :=
  (Weak.les h).trans (Weak.drop hN hn hts hH)
/-- the loop's next state, what came in behind the first n objects forgotten -/
theorem next_ld {ι : Type} {N : Nat} {ts : List AV} {H : List HO} {S : ι → List AV} {HS : ι → List HO} {μ : ι → Nat} {ok : ι → Prop} {i : ι} (i' : ι) (n : Nat) (h1 : μ i' < μ i) (h2 : ok i') (h3 : HS i' = H.take n) (h4 : lesA ts (S i'))
    (hN : N ≤ n) (hn : n ≤ H.length) (hts : AV.inSs (· < n) (S i')) (hH : ∀ o ∈ H.take n, o.inS (· < n)) :
    ∃ i', μ i' < μ i ∧ ok i' ∧ Weak N ts H (S i') (HS i') := ⟨i', h1, h2, by rw [h3]; exact Weak.ld n h4 hN hn hts hH⟩
theorem inSs_nil {S : Nat → Prop} : AV.inSs S [] = True := by simp only [AV.inSs]
theorem inSs_cons {S : Nat → Prop} {a : AV} {l : List AV} : AV.inSs S (a :: l) = (a.inS S ∧ AV.inSs S l) := by simp only [AV.inSs]
theorem inS_d {S : Nat → Prop} {x : D} : AV.inS S (.d x) = True := by simp only [AV.inS]
theorem inS_any {S : Nat → Prop} : AV.inS S .any = True := by simp only [AV.inS]
theorem inS_ptr {S : Nat → Prop} {i j : Nat} : AV.inS S (.ptr i j) = S i := by simp only [AV.inS]
theorem inS_vec {S : Nat → Prop} {i j : Nat} {es : List (List D)} : AV.inS S (.vec i j es) = S i := by simp only [AV.inS]
theorem inS_row {S : Nat → Prop} {i j : Nat} : AV.inS S (.row i j) = S i := by simp only [AV.inS]
theorem inS_map {S : Nat → Prop} {i : Nat} : AV.inS S (.map i) = S i := by simp only [AV.inS]
theorem inS_iter {S : Nat → Prop} {i : Nat} : AV.inS S (.iter i) = S i := by simp only [AV.inS]
theorem inS_arr {S : Nat → Prop} {i j k l : Nat} : AV.inS S (.arr i j k l) = S i := by simp only [AV.inS]
theorem inS_fn {S : Nat → Prop} {f : Fn} {a b : List AV} : AV.inS S (.fn f a b) = (AV.inSs S a ∧ AV.inSs S b) := by simp only [AV.inS]
theorem inS_agg {S : Nat → Prop} {l : List AV} : AV.inS S (.agg l) = AV.inSs S l := by simp only [AV.inS]
theorem inS_tup {S : Nat → Prop} {l : List AV} : AV.inS S (.tup l) = AV.inSs S l := by simp only [AV.inS]
theorem inSs_mapd {S : Nat → Prop} {l : List D} : AV.inSs S (l.map .d) = True := by
  induction l with
  | nil => simp only [List.map_nil, AV.inSs]
  | cons x l ih => simp only [List.map_cons, AV.inSs, AV.inS, ih, and_self]
theorem inSs_append {S : Nat → Prop} {a b : List AV} : AV.inSs S (a ++ b) = (AV.inSs S a ∧ AV.inSs S b) := by
  induction a with
  | nil => simp [AV.inSs]
  | cons x l ih => simp [AV.inSs, ih, and_assoc]

theorem aAppend_row {te : TInf} {b : AV} {id pos : Nat} {es xs : List (List D)} {K : AV → List HO → Prop} {m : Bool} (hb : elems? H b = some xs) (hx : ∀ x ∈ xs, x.length = te.size) (hs : te.bytes ≤ 32768) (hH : H[id]? = some (.row pos te.size es)) (hl : es.length + xs.length ≤ lim)
    (h : K (.row id (pos + 1)) (H.set id (.row (pos + 1) te.size (es ++ xs)))) : aAppend m (some te) (.row id pos) b H K := by
  simp only [aAppend, hb]
  exact ⟨hx, hs, es, hH, hl, h⟩
theorem res_lenR {n b el : Nat} {ag isM : Bool} {fs : List (Nat × Nat × Bool)} {al : Option Nat} {ky : TypeId} {ki : Option IntKind} {st : Bool} {z : List D} {id pos sz : Nat} {es : List (List D)} {K : AV → List HO → Prop}
    (hH : H[id]? = some (.row pos sz es)) (h : K (.d (.int .i64 es.length)) H) : res (oLen (some ⟨n, b, ag, fs, el, al, true, isM, ky, ki, st, z⟩) (.row id pos) H) K := by
  simp only [oLen, oLenRow, hH, if_true, res]; exact h
theorem res_indexR {ti te : TInf} {k : IntKind} {n : Int} {id pos : Nat} {es : List (List D)} {K : AV → List HO → Prop} (hal : ti.alen = none) (his : ti.isSl = true) (hH : H[id]? = some (.row pos te.size es)) (hn : 0 ≤ n) (hl : n.toNat < es.length)
    (h : K (.rp id pos te.size n.toNat 0) H) : res (oIndexAddr (some ti) (some te) (.row id pos) (.d (.int k n)) H) K := by
  have : oIndexAddr (some ti) (some te) (.row id pos) (.d (.int k n)) H = some (.rp id pos te.size n.toNat 0, H) := by simp [oIndexAddr, hal, his, oIndexRow, hH, hn, hl]
  rw [this]; exact h
theorem res_loadR {t : TInf} {id pos sz i k : Nat} {es : List (List D)} {e : List D} {x : AV} {K : AV → List HO → Prop} (hH : H[id]? = some (.row pos sz es)) (he : es[i]? = some e) (hl : k + t.size ≤ e.length) (hx : AV.ofCells t.agg (((e.drop k).take t.size).map .d) = some x)
    (h : K x H) : res (oLoad (some t) (.rp id pos sz i k) H) K := by
  simp only [oLoad, oLoadRow, rowAt, hH, and_self, if_true, he]
  rw [if_pos hl, hx]; exact h
theorem res_storeRk {t : TInf} {v : AV} {id pos sz i k : Nat} {es : List (List D)} {e ds : List D} {new : List AV} {K : AV → List HO → Prop} (hH : H[id]? = some (.row pos sz es)) (hv : v.cells? = some new) (hd : toDs new = some ds) (he : es[i]? = some e) (ht : k + t.size ≤ sz) (hl : ds.length = t.size)
    (h : K (.tup []) (H.set id (.row pos sz (es.set i (e.take k ++ ds ++ e.drop (k + ds.length)))))) : res (oStore (some t) (.rp id pos sz i k) v H) K := by
  have hi := (List.getElem?_eq_some_iff.1 he).1
  have hg : es.getD i [] = e := by rw [List.getD_eq_getElem?_getD, he]; rfl
  have : oStore (some t) (.rp id pos sz i k) v H = some (.tup [], H.set id (.row pos sz (es.set i (e.take k ++ ds ++ e.drop (k + ds.length))))) := by
    simp only [oStore, hv, oStoreRow, hH, hd, hg, true_and]
    rw [if_pos ⟨ht, hl, hi⟩]
  rw [this]; exact h
theorem res_storeR {t : TInf} {v : AV} {id pos sz i : Nat} {es : List (List D)} {ds : List D} {new : List AV} {K : AV → List HO → Prop} (hH : H[id]? = some (.row pos sz es)) (hv : v.cells? = some new) (hd : toDs new = some ds) (ht : t.size = sz) (hl : ds.length = sz) (hi : i < es.length) (hu : es[i].length = sz)
    (h : K (.tup []) (H.set id (.row pos sz (es.set i ds)))) : res (oStore (some t) (.rp id pos sz i 0) v H) K := by
  refine res_storeRk hH hv hd (List.getElem?_eq_getElem hi) (by omega) (by omega) ?_
  have : es[i].take 0 ++ ds ++ es[i].drop (0 + ds.length) = ds := by simp; omega
  rw [this]; exact h
attribute [go_sem] inSs_nil inSs_cons inS_d inS_any inS_ptr inS_vec inS_row inS_map inS_iter inS_arr inS_fn inS_agg inS_tup inSs_mapd inSs_append

/-- a test under which operations stand: both ways -/
theorem gwd_by {m : Bool} {ops : Array Oper} {Q : AQ} {l : List Oper} {d : Option Tmp} {op : Op} {ts : List AV} {H : List HO} {want : Bool} {c : Prop} [Decidable c] (hy : c → gwd P m ops Q l d op ts H want (.d (.bool true))) (hn : ¬ c → gwd P m ops Q l d op ts H want (.d (.bool false))) :
    gwd P m ops Q l d op ts H want (.d (.bool (decide c))) := by
  by_cases h : c
  · rw [decide_eq_true h]; exact hy h
  · rw [decide_eq_false h]; exact hn h
theorem gwd_byb {m : Bool} {ops : Array Oper} {Q : AQ} {l : List Oper} {d : Option Tmp} {op : Op} {ts : List AV} {H : List HO} {want c : Bool} (hy : c = true → gwd P m ops Q l d op ts H want (.d (.bool true))) (hn : c = false → gwd P m ops Q l d op ts H want (.d (.bool false))) :
    gwd P m ops Q l d op ts H want (.d (.bool c)) := by
  cases h : c
  · exact hn h
  · exact hy h
theorem cnd_by {m : Bool} {N : Nat} {a b : Code} {Q : AQ} {ts : List AV} {H : List HO} {c : Prop} [Decidable c] (ha : c → cnd P m N a b Q ts H (.d (.bool true))) (hb : ¬ c → cnd P m N a b Q ts H (.d (.bool false))) : cnd P m N a b Q ts H (.d (.bool (decide c))) := by
  by_cases h : c
  · rw [decide_eq_true h]; exact ha h
  · rw [decide_eq_false h]; exact hb h
theorem cnd_byb {m : Bool} {N : Nat} {a b : Code} {Q : AQ} {ts : List AV} {H : List HO} {c : Bool} (ha : c = true → cnd P m N a b Q ts H (.d (.bool true))) (hb : c = false → cnd P m N a b Q ts H (.d (.bool false))) : cnd P m N a b Q ts H (.d (.bool c)) := by
  cases h : c
  · exact hb h
  · exact ha h

theorem all_one_d {l : List D} : (l.map AV.d).all AV.one = true := by simp [AV.one]
theorem absV_string {l : List UInt8} (h : l.length ≤ 4294967296) : absV (.string ⟨l.toArray⟩) = .d (.str l) := by
  have h' : l.length ≤ lim := h
  simp [absV, absD, h']
attribute [go_sem] all_one_d List.all_append absV_string

theorem aOp_max {m : Bool} {x y : Operand} {tys : Array TypeId} {ts : List AV} {K : AV → List HO → Prop} : aOp P m (.call ⟨.builtin .max, #[x, y], tys⟩) ts H K = resv (oMinMax true (aev ts x) (aev ts y)) H K := by
  simp only [aOp, aCall, aBuiltin, aevs, List.map_cons, List.map_nil]
theorem aOp_min {m : Bool} {x y : Operand} {tys : Array TypeId} {ts : List AV} {K : AV → List HO → Prop} : aOp P m (.call ⟨.builtin .min, #[x, y], tys⟩) ts H K = resv (oMinMax false (aev ts x) (aev ts y)) H K := by
  simp only [aOp, aCall, aBuiltin, aevs, List.map_cons, List.map_nil]
theorem oMax_nat {a b : Nat} {k k' : IntKind} : oMinMax true (.d (.int k (a : Int))) (.d (.int k' (b : Int))) = some (.d (.int k ((max a b : Nat) : Int))) := by
  simp only [oMinMax, if_true]
  split <;> (congr 3; omega)
attribute [go_sem] aOp_max aOp_min oMax_nat

/-! ### more steps -/
theorem oPick_t {a b : AV} : oPick (.d (.bool true)) a b H = some (a, H) := by rfl
theorem oPick_f {a b : AV} : oPick (.d (.bool false)) a b H = some (b, H) := by rfl
theorem oUn_not {b : Bool} : oUn .not (.d (.bool b)) = some (.d (.bool (!b))) := by rfl
theorem oUn_neg {k : IntKind} {n : Int} : oUn .neg (.d (.int k n)) = some (.d (.int k (k.wrap (0 - n)))) := by rfl
theorem oConv_int {k k' : IntKind} {n : Int} : oConv (.int k) (.d (.int k' n)) = some (.d (.int k (k.wrap n))) := by rfl
theorem oConv_str {s : Str} : oConv .str (.d (.str s)) = some (.d (.str s)) := by rfl
theorem oExtract_tup {vs : List AV} {i : Nat} : oExtract (.tup vs) i H = (vs[i]?).map (·, H) := by rfl
theorem oField_agg {n b el : Nat} {ag isS isM : Bool} {fs : List (Nat × Nat × Bool)} {al : Option Nat} {ky : TypeId} {ki : Option IntKind} {st : Bool} {z : List D} {cs : List AV} {f : Nat} :
    oField (some ⟨n, b, ag, fs, el, al, isS, isM, ky, ki, st, z⟩) (.agg cs) f H = match fs[f]? with
    | some (o, s, g) => if o + s ≤ cs.length ∧ s ≠ 0 then (AV.ofCells g ((cs.drop o).take s)).map (·, H) else none
    | none => none := by rfl
theorem oAlloc_some {n b el : Nat} {ag isS isM : Bool} {fs : List (Nat × Nat × Bool)} {al : Option Nat} {ky : TypeId} {ki : Option IntKind} {st : Bool} {z : List D} :
    oAlloc (some ⟨n, b, ag, fs, el, al, isS, isM, ky, ki, st, z⟩) H = some (.ptr H.length 0, H ++ [.cells (z.map .d)]) := by rfl
theorem res_indexS {n b el : Nat} {ag isS isM : Bool} {fs : List (Nat × Nat × Bool)} {al : Option Nat} {ky : TypeId} {ki : Option IntKind} {z : List D} {s : Str} {k : IntKind} {i : Int} {c : UInt8} {K : AV → List HO → Prop}
    (hn : 0 ≤ i) (hx : s[i.toNat]? = some c) (h : K (.d (.int .u8 c.toNat)) H) : res (oIndex (some ⟨n, b, ag, fs, el, al, isS, isM, ky, ki, true, z⟩) (.d (.str s)) (.d (.int k i)) H) K := by
  have hlt := (List.getElem?_eq_some_iff.1 hx).1
  have hr : inRange i s.length = true := by simp [inRange]; omega
  simp only [oIndex, hr, if_true, hx, res]; exact h
theorem oBin_bool {ek : EqK} {op : BinOp} {x y : Bool} (h : ek = .bool) : oBin ek op (.d (.bool x)) (.d (.bool y)) H = (bBin op x y).map fun r => (.d r, H) := by subst h; rfl
theorem sBin_add {x y : Str} (h : x.length + y.length ≤ lim) : sBin .add x y = some (.str (x ++ y)) := by simp only [sBin]; rw [if_pos h]

theorem pures_nil : AV.pures? [] = some [] := by rfl
theorem pures_cons {c : AV} {l : List AV} : AV.pures? (c :: l) = (AV.pure? c).bind fun x => (AV.pures? l).map (x :: ·) := by rfl
theorem pure_vec {i j : Nat} {es : List (List D)} : AV.pure? (.vec i j es) = some (.d (.sl false (D.normE es))) := by rfl
theorem pure_agg0 {l : List AV} : AV.pure? (.agg l) = (AV.pures? l).map .agg := by rfl
theorem pure_tup {l : List AV} : AV.pure? (.tup l) = (AV.pures? l).map .tup := by rfl
theorem norm_bool {b : Bool} : D.norm (.bool b) = .bool b := by rfl
theorem norm_int {k : IntKind} {n : Int} : D.norm (.int k n) = .int k n := by rfl
theorem norm_str {s : Str} : D.norm (.str s) = .str s := by rfl
theorem norm_con {v : Value} : D.norm (.con v) = .con v := by rfl
theorem norm_sl {c : Bool} {es : List (List D)} : D.norm (.sl c es) = .sl false (D.normE es) := by rfl
theorem norm_ptr {l : List D} : D.norm (.ptr l) = .ptr (D.normL l) := by rfl
theorem normL_nil : D.normL [] = [] := by rfl
theorem normL_cons {d : D} {l : List D} : D.normL (d :: l) = d.norm :: D.normL l := by rfl
theorem normE_nil : D.normE [] = [] := by rfl
theorem normE_cons {d : List D} {l : List (List D)} : D.normE (d :: l) = D.normL d :: D.normE l := by rfl
theorem normE_append (a b : List (List D)) : D.normE (a ++ b) = D.normE a ++ D.normE b := by
  induction a with
  | nil => rfl
  | cons x a ih => simp only [List.cons_append, D.normE, ih]
theorem normE_map {α : Type} {f : α → List D} (h : ∀ x, D.normL (f x) = f x) (l : List α) : D.normE (l.map f) = l.map f := by
  induction l with
  | nil => rfl
  | cons x l ih => simp only [List.map_cons, D.normE, h, ih]
theorem normE_ty (l : List Ty) : D.normE (l.map Ty.enc) = l.map Ty.enc := normE_map Ty.enc_norm l
theorem normE_fd (l : List Fd) : D.normE (l.map Fd.enc) = l.map Fd.enc := normE_map Fd.enc_norm l
theorem normE_pa (l : List Pa) : D.normE (l.map Pa.enc) = l.map Pa.enc := normE_map Pa.enc_norm l
theorem normE_te (l : List TE) : D.normE (l.map TE.enc) = l.map TE.enc := normE_map TE.enc_norm l
theorem normE_ve (l : List VE) : D.normE (l.map VE.enc) = l.map VE.enc := normE_map VE.enc_norm l
theorem normE_ae (l : List AE) : D.normE (l.map AE.enc) = l.map AE.enc := normE_map AE.enc_norm l
theorem normE_de (l : List DE) : D.normE (l.map DE.enc) = l.map DE.enc := normE_map DE.enc_norm l
theorem normE_if (l : List If) : D.normE (l.map If.enc) = l.map If.enc := normE_map If.enc_norm l
def sE (s : Str) : List D := [.str s]
theorem normE_str (l : List Str) : D.normE (l.map sE) = l.map sE := normE_map (fun _ => rfl) l
theorem strs_eq (l : List Str) : strs l = .sl false (l.map sE) := by rfl
theorem sE_len (s : Str) : (sE s).length = 1 := by rfl
theorem pures_append (a b : List AV) : AV.pures? (a ++ b) = (AV.pures? a).bind fun x => (AV.pures? b).map (x ++ ·) := by
  induction a with
  | nil => simp only [List.nil_append, AV.pures?, Option.bind_some]; cases AV.pures? b <;> rfl
  | cons c a ih =>
    simp only [List.cons_append, AV.pures?, ih]
    cases AV.pure? c with
    | none => rfl
    | some x => cases AV.pures? a with
      | none => rfl
      | some y => cases AV.pures? b <;> rfl
theorem free_d {x : D} : AV.free (.d x) = true := by rfl
theorem free_tup {l : List AV} : AV.free (.tup l) = AV.frees l := by rfl
theorem free_agg0 {l : List AV} : AV.free (.agg l) = AV.frees l := by rfl
theorem frees_nil : AV.frees [] = true := by rfl
theorem frees_cons {a : AV} {l : List AV} : AV.frees (a :: l) = (AV.free a && AV.frees l) := by rfl
theorem frees_append {a b : List AV} : AV.frees (a ++ b) = (AV.frees a && AV.frees b) := by
  induction a with
  | nil => simp [AV.frees]
  | cons x a ih => simp [AV.frees, ih, Bool.and_assoc]

theorem Ty.cells_take (t : Ty) (l : List AV) : (List.map AV.d t.enc ++ l).take 5 = List.map AV.d t.enc := by rw [List.take_append_of_le_length (by simp [Ty.enc_len]), List.take_of_length_le (by simp [Ty.enc_len])]
theorem Ty.cells_drop (t : Ty) (l : List AV) : (List.map AV.d t.enc ++ l).drop 5 = l := List.drop_left' (by simp [Ty.enc_len])
theorem Ty.cells_take0 (t : Ty) : (List.map AV.d t.enc).take 5 = List.map AV.d t.enc := List.take_of_length_le (by simp [Ty.enc_len])
theorem Ty.enc_take0 (t : Ty) : t.enc.take 5 = t.enc := List.take_of_length_le (by simp [Ty.enc_len])
theorem Ty.enc_drop (t : Ty) (l : List D) : (t.enc ++ l).drop 5 = l := List.drop_left' (by simp [Ty.enc_len])
theorem Pa.enc_eq (p : Pa) : p.enc = .str p.name :: .int .i64 p.var :: p.bound.enc := by rfl
theorem TE.enc_eq (x : TE) : x.enc = .str x.name :: .sl false (x.params.map Pa.enc) :: (x.lower.enc ++ x.upper.enc) := by rfl
theorem VE.enc_eq (x : VE) : x.enc = .str x.name :: .sl false (x.params.map Pa.enc) :: x.type.enc := by rfl
theorem AE.enc_eq (x : AE) : x.enc = [.str x.name, .str x.module, .str x.target] := by rfl
theorem DE.enc_eq (x : DE) : x.enc = [.str x.name, .str x.note] := by rfl
theorem If.enc_eq (x : If) : x.enc = [.str x.path, .sl false (x.types.map TE.enc), .sl false (x.values.map VE.enc), .sl false (x.aliases.map AE.enc), .sl false (x.depr.map DE.enc)] := by rfl
theorem Env.enc_eq (e : Env) : Env.enc e = .sl false (e.map If.enc) := by rfl
theorem Pa.enc_len (p : Pa) : p.enc.length = 7 := by simp [Pa.enc_eq, Ty.enc_len]
theorem TE.enc_len (p : TE) : p.enc.length = 12 := by simp [TE.enc_eq, Ty.enc_len]
theorem VE.enc_len (p : VE) : p.enc.length = 7 := by simp [VE.enc_eq, Ty.enc_len]
theorem AE.enc_len (p : AE) : p.enc.length = 3 := by rfl
theorem DE.enc_len (p : DE) : p.enc.length = 2 := by rfl
theorem If.enc_len (p : If) : p.enc.length = 5 := by rfl
theorem enc_ne {a : Nat} {P : Prop} : (¬ (a + 1) = 0 ∧ P) = P := by simp

attribute [go_sem] oPick_t oPick_f oUn_not oUn_neg oConv_int oConv_str oExtract_tup oField_agg oAlloc_some pures_nil pures_cons pure_d pure_vec pure_agg0 pure_tup norm_bool norm_int norm_str norm_con norm_sl norm_ptr normL_nil normL_cons normE_nil normE_cons normE_append normE_ty normE_fd normE_pa normE_te normE_ve normE_ae normE_de normE_if normE_str
  Ty.enc_norm pures_d pures_append free_d free_tup free_agg0 frees_nil frees_cons frees_append frees_d Ty.cells_take Ty.cells_drop Ty.cells_take0 Ty.enc_take0 Ty.enc_drop Ty.enc_take Ty.enc_len Fd.enc_len Pa.enc_len TE.enc_len VE.enc_len AE.enc_len DE.enc_len If.enc_len sE_len List.length_append Nat.le_refl and_self ne_eq not_false_eq_true not_true_eq_false Bool.false_eq_true Bool.true_and Bool.and_true Bool.and_false Bool.false_and Bool.or_true Bool.or_false Bool.true_or Bool.false_or decide_true decide_false Option.bind_some Nat.add_zero Nat.le_add_right Nat.le_add_left
  List.getElem?_nil Option.map_none List.append_nil

end Go.Proofs.YthhmioodienlmaaGreatDoor

/- Contracts of the reference's functions on names and paths (chapter 3). -/
namespace Go.Proofs.YthhmioodienlmaaGreatDoor
open Go
set_option maxRecDepth 20000
set_option pp.deepTerms false
set_option pp.deepTerms.threshold 6

def bSmall (c : UInt8) : Bool := decide (97 ≤ (c.toNat : Int)) && decide ((c.toNat : Int) ≤ 122)
def bCapital (c : UInt8) : Bool := decide (65 ≤ (c.toNat : Int)) && decide ((c.toNat : Int) ≤ 90)
def bDigit (c : UInt8) : Bool := decide (48 ≤ (c.toNat : Int)) && decide ((c.toNat : Int) ≤ 57)
def bWord (c : UInt8) : Bool := bSmall c || bCapital c || bDigit c || decide ((c.toNat : Int) = 95)

theorem ref_small (c : UInt8) : Fun Tryz.prog 209 [.d (.int .u8 c.toNat)] (.d (.bool (bSmall c))) := by
  refine ACalls.of_awp false Tryz.func209 (by decide) rfl ?_
  simp only [show Tryz.f209.ntmps = 9 from rfl, List.length_cons, List.length_nil, Nat.reduceAdd, Nat.reduceSub, List.replicate, List.cons_append, List.nil_append, agg, List.map_cons, List.map_nil]
  unfold bSmall
  by_cases h1 : (97 : Int) ≤ c.toNat <;> by_cases h2 : (c.toNat : Int) ≤ 122 <;> simp only [go_sem, h1, h2] <;> exact ret_fun rfl (by simp [go_sem]) rfl
theorem ref_capital (c : UInt8) : Fun Tryz.prog 207 [.d (.int .u8 c.toNat)] (.d (.bool (bCapital c))) := by
  refine ACalls.of_awp false Tryz.func207 (by decide) rfl ?_
  simp only [show Tryz.f207.ntmps = 9 from rfl, List.length_cons, List.length_nil, Nat.reduceAdd, Nat.reduceSub, List.replicate, List.cons_append, List.nil_append, agg, List.map_cons, List.map_nil]
  unfold bCapital
  by_cases h1 : (65 : Int) ≤ c.toNat <;> by_cases h2 : (c.toNat : Int) ≤ 90 <;> simp only [go_sem, h1, h2] <;> exact ret_fun rfl (by simp [go_sem]) rfl
theorem ref_digit (c : UInt8) : Fun Tryz.prog 247 [.d (.int .u8 c.toNat)] (.d (.bool (bDigit c))) := by
  refine ACalls.of_awp false Tryz.func247 (by decide) rfl ?_
  simp only [show Tryz.f247.ntmps = 9 from rfl, List.length_cons, List.length_nil, Nat.reduceAdd, Nat.reduceSub, List.replicate, List.cons_append, List.nil_append, agg, List.map_cons, List.map_nil]
  unfold bDigit
  by_cases h1 : (48 : Int) ≤ c.toNat <;> by_cases h2 : (c.toNat : Int) ≤ 57 <;> simp only [go_sem, h1, h2] <;> exact ret_fun rfl (by simp [go_sem]) rfl
theorem ref_word (c : UInt8) : Fun Tryz.prog 226 [.d (.int .u8 c.toNat)] (.d (.bool (bWord c))) := by
  refine ACalls.of_awp false Tryz.func226 (by decide) rfl ?_
  simp only [show Tryz.f226.ntmps = 17 from rfl, List.length_cons, List.length_nil, Nat.reduceAdd, Nat.reduceSub, List.replicate, List.cons_append, List.nil_append, agg, List.map_cons, List.map_nil]
  unfold bWord
  simp only [go_sem]
  refine (ref_small c).call rfl rfl ?_
  cases bSmall c
  · simp only [go_sem]
    refine (ref_capital c).call rfl rfl ?_
    cases bCapital c
    · simp only [go_sem]
      refine (ref_digit c).call rfl rfl ?_
      cases bDigit c
      · simp only [go_sem]; exact ret_fun rfl (by simp [go_sem]) rfl
      · simp only [go_sem]; exact ret_fun rfl (by simp [go_sem]) rfl
    · simp only [go_sem]; exact ret_fun rfl (by simp [go_sem]) rfl
  · simp only [go_sem]; exact ret_fun rfl (by simp [go_sem]) rfl

def keywords : List Str := [[97, 110, 100], [97, 110, 121], [97, 115], [98, 111, 111, 108], [100, 101, 112, 114, 101, 99, 97, 116, 101, 100], [101, 108, 115, 101], [101, 120, 112, 111, 114, 116], [102, 97, 108, 115, 101], [102, 110], [102, 111, 108, 100], [102, 114, 111, 109], [105, 102], [105, 109, 112, 111, 114, 116], [105, 110], [105, 110, 116], [108, 101, 110, 103, 116, 104], [108, 101, 116], [108, 105, 115, 116], [109, 97, 116, 99, 104], [109, 111, 100, 117, 108, 101], [110, 111, 110, 101], [110, 111, 116], [111, 114], [116, 101, 120, 116], [116, 104, 101, 110], [116, 114, 117, 101], [116, 121, 112, 101], [117, 115, 101]]
def isType (s : Str) : Bool := decide ((1 : Int) ≤ s.length) && decide ((s.length : Int) ≤ 32) && bCapital (s.headD 0) && s.all bWord
def isName (s : Str) : Bool := decide ((1 : Int) ≤ s.length) && decide ((s.length : Int) ≤ 32) && bSmall (s.headD 0) && s.all bWord && !(keywords.contains s)
theorem headD_at {s : Str} (h : 0 < s.length) : s[(0 : Int).toNat]? = some (s.headD 0) := by cases s with | nil => simp at h | cons c s => simp

theorem ref_words (s : Str) (h : s.length ≤ 4294967296) : Fun Tryz.prog 208 [.d (.str s)] (.d (.bool (s.all bWord))) := by
  refine ACalls.of_awp false Tryz.func208 (by decide) rfl ?_
  simp only [show Tryz.f208.ntmps = 15 from rfl, List.length_cons, List.length_nil, Nat.reduceAdd, Nat.reduceSub, List.replicate, List.cons_append, List.nil_append, agg, List.map_cons, List.map_nil]
  simp only [go_sem]
  refine awp_loop (ι := Nat) (fun i => [.d (.str s), .any, .any, .d (.int .i64 i), .any, .any, .any, .any, .any, .any, .any, .any, .any, .any, .any]) (fun _ => []) (fun i => s.length - i) (fun i => i ≤ s.length ∧ s.all bWord = (s.drop i).all bWord) 0 ⟨by omega, rfl⟩ (Weak.les (by repeat (first | exact lesA_nil | refine lesA_cons (AV.le_any _) ?_ | refine lesA_cons (AV.le_refl _) ?_ | refine lesA_cons (AV.le_pure rfl) ?_))) ?_
  rintro i ⟨hi, ha⟩
  simp only [go_sem]
  refine cnd_lt (fun hlt => ?_) (fun hge => ?_)
  · have hd := List.drop_eq_getElem_cons hlt
    simp only [go_sem]
    refine res_indexS (by omega) (c := s[i]) (by simp [hlt]) ?_
    simp only [go_sem]
    refine (ref_word _).call rfl rfl ?_
    rw [hd, List.all_cons] at ha
    cases hc : bWord s[i]
    · simp only [go_sem]
      exact ret_fun rfl (by simp [go_sem, ha, hc]) rfl
    · simp only [go_sem, wrap_succ (i := i) (by omega)]
      exact next_les (i + 1) (by omega) ⟨hlt, by simp [ha, hc]⟩ rfl (by repeat (first | exact lesA_nil | refine lesA_cons (AV.le_any _) ?_ | refine lesA_cons (AV.le_refl _) ?_ | refine lesA_cons (AV.le_pure rfl) ?_))
  · simp only [go_sem]
    have : s.drop i = [] := List.drop_eq_nil_of_le hge
    exact ret_fun rfl (by simp [go_sem, ha, this]) rfl

theorem has_cons (x s : Str) (l : List Str) : (x :: l).contains s = (decide (x = s) || l.contains s) := by
  rw [List.contains_cons]; congr 1; rw [Bool.eq_iff_iff]; simp; exact ⟨Eq.symm, Eq.symm⟩

theorem ref_has (l : List Str) (s : Str) (h : l.length ≤ 4294967296) : Fun Tryz.prog 110 [.d (.sl false (l.map sE)), .d (.str s)] (.d (.bool (l.contains s))) := by
  refine ACalls.of_awp false Tryz.func110 (by decide) rfl ?_
  simp only [show Tryz.f110.ntmps = 18 from rfl, List.length_cons, List.length_nil, Nat.reduceAdd, Nat.reduceSub, List.replicate, List.cons_append, List.nil_append, agg, List.map_cons, List.map_nil]
  simp only [go_sem]
  refine awp_loop (ι := Nat) (fun i => [.d (.sl false (l.map sE)), .d (.str s), .any, .any, .any, .d (.int .i64 i), .any, .any, .any, .any, .any, .any, .any, .any, .any, .any, .any, .any]) (fun _ => []) (fun i => l.length - i) (fun i => i ≤ l.length ∧ l.contains s = (l.drop i).contains s) 0 ⟨by omega, rfl⟩ (Weak.les (by repeat (first | exact lesA_nil | refine lesA_cons (AV.le_any _) ?_ | refine lesA_cons (AV.le_refl _) ?_ | refine lesA_cons (AV.le_pure rfl) ?_))) ?_
  rintro i ⟨hi, ha⟩
  simp only [go_sem]
  refine cnd_lt (fun hlt => ?_) (fun hge => ?_)
  · have hd := List.drop_eq_getElem_cons hlt
    simp only [go_sem]
    refine res_index rfl rfl (by omega) (map_at sE hlt) (sE_len _) ?_
    simp only [go_sem, sE]
    rw [hd, has_cons] at ha
    by_cases hc : l[i] = s
    · simp only [go_sem, hc]
      rw [ha]; exact ret_fun rfl (by simp [go_sem, hc]) rfl
    · simp only [go_sem, hc, wrap_succ (i := i) (by omega)]
      exact next_les (i + 1) (by omega) ⟨hlt, by rw [ha]; simp only [hc, decide_false, Bool.false_or]⟩ rfl (by repeat (first | exact lesA_nil | refine lesA_cons (AV.le_any _) ?_ | refine lesA_cons (AV.le_refl _) ?_ | refine lesA_cons (AV.le_pure rfl) ?_))
  · simp only [go_sem]
    have : l.drop i = [] := List.drop_eq_nil_of_le hge
    rw [ha, this]; exact ret_fun rfl (by simp [go_sem]) rfl

theorem ref_IsType (s : Str) (h : s.length ≤ 4294967296) : Fun Tryz.prog 162 [.d (.str s)] (.d (.bool (isType s))) := by
  refine ACalls.of_awp false Tryz.func162 (by decide) rfl ?_
  simp only [show Tryz.f162.ntmps = 20 from rfl, List.length_cons, List.length_nil, Nat.reduceAdd, Nat.reduceSub, List.replicate, List.cons_append, List.nil_append, agg, List.map_cons, List.map_nil]
  unfold isType
  by_cases h1 : (1 : Int) ≤ s.length
  · by_cases h2 : (s.length : Int) ≤ 32
    · simp only [go_sem, h1, h2]
      refine res_indexS (Int.le_refl _) (c := s.headD 0) (headD_at (by omega)) ?_
      simp only [go_sem]
      refine (ref_capital _).call rfl rfl ?_
      cases bCapital (s.headD 0)
      · simp only [go_sem]; exact ret_fun rfl (by simp [go_sem]) rfl
      · simp only [go_sem]
        refine (ref_words s h).call rfl rfl ?_
        cases s.all bWord <;> (simp only [go_sem]; exact ret_fun rfl (by simp [go_sem]) rfl)
    · simp only [go_sem, h1, h2]; exact ret_fun rfl (by simp [go_sem]) rfl
  · simp only [go_sem, h1]; exact ret_fun rfl (by simp [go_sem]) rfl

theorem ref_Keywords : Fun Tryz.prog 210 [] (.d (.sl false (keywords.map sE))) := by
  refine ACalls.of_awp false Tryz.func210 (by decide) rfl ?_
  simp only [show Tryz.f210.ntmps = 2 from rfl, List.length_cons, List.length_nil, Nat.reduceAdd, Nat.reduceSub, List.replicate, List.cons_append, List.nil_append, agg, List.map_cons, List.map_nil]
  simp only [go_sem]
  refine res_of (x := .d (.sl true (keywords.map sE))) (H' := []) (by kernel_rfl) ?_
  simp only [go_sem]
  exact ret_fun rfl (by simp [go_sem]) rfl

theorem ref_IsName (s : Str) (h : s.length ≤ 4294967296) : Fun Tryz.prog 163 [.d (.str s)] (.d (.bool (isName s))) := by
  refine ACalls.of_awp false Tryz.func163 (by decide) rfl ?_
  simp only [show Tryz.f163.ntmps = 26 from rfl, List.length_cons, List.length_nil, Nat.reduceAdd, Nat.reduceSub, List.replicate, List.cons_append, List.nil_append, agg, List.map_cons, List.map_nil]
  unfold isName
  by_cases h1 : (1 : Int) ≤ s.length
  · by_cases h2 : (s.length : Int) ≤ 32
    · simp only [go_sem, h1, h2]
      refine res_indexS (Int.le_refl _) (c := s.headD 0) (headD_at (by omega)) ?_
      simp only [go_sem]
      refine (ref_small _).call rfl rfl ?_
      cases bSmall (s.headD 0)
      · simp only [go_sem]; exact ret_fun rfl (by simp [go_sem]) rfl
      · simp only [go_sem]
        refine (ref_words s h).call rfl rfl ?_
        cases s.all bWord
        · simp only [go_sem]; exact ret_fun rfl (by simp [go_sem]) rfl
        · simp only [go_sem]
          refine ref_Keywords.call rfl rfl ?_
          simp only [go_sem]
          refine (ref_has keywords s (by decide)).call (by simp only [go_sem]) rfl ?_
          cases keywords.contains s <;> (simp only [go_sem]; exact ret_fun rfl (by simp [go_sem]) rfl)
    · simp only [go_sem, h1, h2]; exact ret_fun rfl (by simp [go_sem]) rfl
  · simp only [go_sem, h1]; exact ret_fun rfl (by simp [go_sem]) rfl

def segOk (s : Str) : Bool := s.all (fun c => bSmall c || bDigit c) && isName s
theorem ref_segment (s : Str) (h : s.length ≤ 4294967296) : Fun Tryz.prog 245 [.d (.str s)] (.d (.bool (segOk s))) := by
  refine ACalls.of_awp false Tryz.func245 (by decide) rfl ?_
  simp only [show Tryz.f245.ntmps = 24 from rfl, List.length_cons, List.length_nil, Nat.reduceAdd, Nat.reduceSub, List.replicate, List.cons_append, List.nil_append, agg, List.map_cons, List.map_nil]
  unfold segOk
  simp only [go_sem]
  refine awp_loop (ι := Nat) (fun i => [.d (.str s), .any, .any, .d (.int .i64 i), .any, .any, .any, .any, .any, .any, .any, .any, .any, .any, .any, .any, .any, .any, .any, .any, .any, .any, .any, .any]) (fun _ => []) (fun i => s.length - i) (fun i => i ≤ s.length ∧ s.all (fun c => bSmall c || bDigit c) = (s.drop i).all (fun c => bSmall c || bDigit c)) 0 ⟨by omega, rfl⟩ (Weak.les (by repeat (first | exact lesA_nil | refine lesA_cons (AV.le_any _) ?_ | refine lesA_cons (AV.le_refl _) ?_ | refine lesA_cons (AV.le_pure rfl) ?_))) ?_
  rintro i ⟨hi, ha⟩
  simp only [go_sem]
  refine cnd_lt (fun hlt => ?_) (fun hge => ?_)
  · have hd := List.drop_eq_getElem_cons hlt
    rw [hd, List.all_cons] at ha
    simp only [go_sem]
    refine res_indexS (by omega) (c := s[i]) (by simp [hlt]) ?_
    simp only [go_sem]
    refine (ref_small _).call rfl rfl ?_
    cases hs : bSmall s[i]
    · simp only [go_sem]
      refine res_indexS (by omega) (c := s[i]) (by simp [hlt]) ?_
      simp only [go_sem]
      refine (ref_digit _).call rfl rfl ?_
      cases hc : bDigit s[i]
      · simp only [go_sem]
        rw [ha]; exact ret_fun rfl (by simp [go_sem, hs, hc]) rfl
      · simp only [go_sem, wrap_succ (i := i) (by omega)]
        exact next_les (i + 1) (by omega) ⟨hlt, by rw [ha]; simp only [hs, hc, Bool.or_true, Bool.true_and]⟩ rfl (by repeat (first | exact lesA_nil | refine lesA_cons (AV.le_any _) ?_ | refine lesA_cons (AV.le_refl _) ?_ | refine lesA_cons (AV.le_pure rfl) ?_))
    · simp only [go_sem, wrap_succ (i := i) (by omega)]
      exact next_les (i + 1) (by omega) ⟨hlt, by rw [ha]; simp only [hs, Bool.true_or, Bool.true_and]⟩ rfl (by repeat (first | exact lesA_nil | refine lesA_cons (AV.le_any _) ?_ | refine lesA_cons (AV.le_refl _) ?_ | refine lesA_cons (AV.le_pure rfl) ?_))
  · simp only [go_sem]
    have : s.drop i = [] := List.drop_eq_nil_of_le hge
    refine (ref_IsName s h).call rfl rfl ?_
    simp only [go_sem]
    rw [ha, this]; exact ret_fun rfl (by simp [go_sem]) rfl

/-! ### paths -/
theorem u8_of {c d : UInt8} (h : (c.toNat : Int) = (d.toNat : Int)) : c = d := UInt8.toNat_inj.1 (by omega)

def segF (out : List Str) (c : UInt8) : List Str := if c = 47 then out ++ [[]] else out.set (out.length - 1) (out.getD (out.length - 1) [] ++ [c])
def segs (s : Str) : List Str := s.foldl segF [[]]
theorem segF_ne (out : List Str) (c : UInt8) (h : 1 ≤ out.length) : 1 ≤ (segF out c).length := by unfold segF; split <;> simp; omega
theorem segs_ne (s : Str) : ∀ out : List Str, 1 ≤ out.length → 1 ≤ (s.foldl segF out).length := by
  induction s with
  | nil => intro out h; exact h
  | cons c s ih => intro out h; exact ih _ (segF_ne out c h)
theorem segF_len (out : List Str) (c : UInt8) : (segF out c).length ≤ out.length + 1 := by unfold segF; split <;> simp
theorem segs_len (s : Str) : ∀ out : List Str, (s.foldl segF out).length ≤ out.length + s.length := by
  induction s with
  | nil => intro out; simp
  | cons c s ih => intro out; have := ih (segF out c); have := segF_len out c; simp only [List.foldl_cons, List.length_cons]; omega

theorem segs_mem (N : Nat) (s : Str) : ∀ out : List Str, (∀ x ∈ out, x.length ≤ N) → ∀ x ∈ s.foldl segF out, x.length ≤ N + s.length := by
  induction s generalizing N with
  | nil => intro out h; exact h
  | cons c s ih =>
    intro out h x hx
    have := ih (N + 1) (segF out c) (by
      intro y hy
      unfold segF at hy
      split at hy
      · simp only [List.mem_append, List.mem_singleton] at hy
        rcases hy with hy | rfl
        · have := h y hy; omega
        · simp
      · rcases List.mem_or_eq_of_mem_set hy with hm | rfl
        · have := h y hm; omega
        · rw [List.length_append, List.getD_eq_getElem?_getD]
          cases hg : out[out.length - 1]? with
          | none => simp
          | some z => have := h z (List.mem_of_getElem? hg); simp; omega) x hx
    simp only [List.length_cons]; omega
theorem conv_byte {c : UInt8} {ts : Bool} : oConv .bytes (.d (.sl ts [[.int .u8 c.toNat]])) = some (.d (.str [c])) := by
  simp [oConv, AV.toD, dConv, bytes?]

theorem ref_Segments (s : Str) (h : s.length ≤ 1048576) : Fun Tryz.prog 244 [.d (.str s)] (.d (.sl false ((segs s).map sE))) := by
  refine ACalls.of_awp true Tryz.func244 (by decide) rfl ?_
  simp only [show Tryz.f244.ntmps = 37 from rfl, List.length_cons, List.length_nil, Nat.reduceAdd, Nat.reduceSub, List.replicate, List.cons_append, List.nil_append, agg, List.map_cons, List.map_nil]
  simp only [go_sem]
  refine res_of (x := .arr 0 0 1 1) (H' := [.cells [.d (.str [])]]) (by kernel_rfl) ?_
  simp only [go_sem]
  have hO : ∀ i, 1 ≤ ((s.take i).foldl segF [[]]).length := fun i => segs_ne _ _ (Nat.le_refl _)
  have hL : ∀ i, ((s.take i).foldl segF [[]]).length ≤ 1 + s.length := fun i => by
    have h1 := segs_len (s.take i) [[]]
    have h2 : (s.take i).length ≤ s.length := by simp; omega
    simp only [List.length_cons, List.length_nil] at h1
    omega
  have hseg : ∀ i, ∀ x ∈ (s.take i).foldl segF [[]], x.length ≤ s.length := fun i x hx => by
    have h1 := segs_mem 0 (s.take i) [[]] (by simp) x hx
    have h2 : (s.take i).length ≤ s.length := by simp; omega
    omega
  refine awp_loop (ι := Nat) (fun i => [.d (.str s), .any, .any, .row 1 (((s.take i).foldl segF [[]]).length - 1), .d (.int .i64 i), .any, .any, .any, .any, .any, .any, .any, .any, .any, .any, .any, .any, .any, .any, .any, .any, .any, .any, .any, .any, .any, .any, .any, .any, .any, .any, .any, .any, .any, .any, .any, .any])
    (fun i => [.dead, .row (((s.take i).foldl segF [[]]).length - 1) 1 (((s.take i).foldl segF [[]]).map sE)]) (fun i => s.length - i) (fun i => i ≤ s.length) 0 (by omega)
    ((Weak.arrRow (t := 3) (id := 0) (len := 1) (sz := 1) (es := [[.str []]]) rfl rfl rfl (by simp)).trans (Weak.les (by repeat (first | exact lesA_nil | refine lesA_cons (AV.le_any _) ?_ | refine lesA_cons (AV.le_refl _) ?_ | refine lesA_cons (AV.le_pure rfl) ?_)))) ?_
  intro i hi
  simp only [go_sem]
  refine cnd_lt (fun hlt => ?_) (fun hge => ?_)
  · have htk : (s.take (i + 1)).foldl segF [[]] = segF ((s.take i).foldl segF [[]]) s[i] := by rw [List.take_succ_eq_append_getElem hlt, List.foldl_append]; rfl
    have h1 := hO i
    have h2 := hL i
    simp only [go_sem]
    refine res_indexS (by omega) (c := s[i]) (by simp [hlt]) ?_
    simp only [go_sem]
    refine cnd_if (fun hc => ?_) (fun hc => ?_)
    · have hc' : s[i] = 47 := u8_of (d := 47) hc
      simp only [go_sem]
      refine res_of (x := .arr 2 0 1 1) (H' := [.dead, .row (((s.take i).foldl segF [[]]).length - 1) 1 (((s.take i).foldl segF [[]]).map sE), .cells [.d (.str [])]]) rfl ?_
      simp only [go_sem]
      refine aAppend_row (xs := [[.str []]]) rfl (by simp) (by decide) rfl (by simp [lim]; omega) ?_
      simp only [go_sem, wrap_succ (i := i) (by omega)]
      have hpos : ((s.take (i + 1)).foldl segF [[]]).length - 1 = ((s.take i).foldl segF [[]]).length - 1 + 1 := by rw [htk]; simp only [segF, hc', if_true, List.length_append, List.length_cons, List.length_nil]; omega
      refine next_ld (i + 1) 2 (by omega) hlt ?_ ?_ (Nat.zero_le _) (by simp) (by simp [go_sem]) (by simp [HO.inS])
      · simp only [hpos, List.set_cons_succ, List.set_cons_zero, List.take_succ_cons, List.take_zero]
        rw [htk]; simp [segF, hc', sE]
      · simp only [hpos]; exact (by repeat (first | exact lesA_nil | refine lesA_cons (AV.le_any _) ?_ | refine lesA_cons (AV.le_refl _) ?_ | refine lesA_cons (AV.le_pure rfl) ?_))
    · have hc' : ¬ s[i] = 47 := fun e => hc (by rw [e]; rfl)
      refine awp_draw0 [false, false, false, false, false, false, false, false, false, false, false, false, false, false, false, false, false, true] mixed (by kernel_rfl) ?_
      generalize ho : (s.take i).foldl segF [[]] = out at htk h1 h2
      have hw : IntKind.i64.wrap ((out.length : Int) - 1) = ((out.length - 1 : Nat) : Int) := by rw [wrap_i64 (by omega) (by omega)]; omega
      have hlast : (out.map sE)[out.length - 1]? = some (sE (out.getD (out.length - 1) [])) := by rw [List.getElem?_map, List.getD_eq_getElem?_getD, List.getElem?_eq_getElem (by omega)]; rfl
      simp only [go_sem]
      refine res_lenR (es := out.map sE) rfl ?_
      simp only [go_sem, hw]
      refine res_lenR (es := out.map sE) rfl ?_
      simp only [go_sem, hw]
      refine res_indexR (es := out.map sE) rfl rfl rfl (by omega) (by simp; omega) ?_
      simp only [go_sem, Int.toNat_natCast]
      refine res_loadR (es := out.map sE) rfl hlast (by simp [sE]) rfl ?_
      simp only [go_sem]
      refine res_indexS (by omega) (c := s[i]) (by simp [hlt]) ?_
      simp only [go_sem]
      refine res_of (x := .d (.sl true [[.int .u8 s[i].toNat]])) (by rfl) ?_
      simp only [go_sem]
      rw [conv_byte]
      simp only [go_sem, sE]
      rw [sBin_add (by have := hseg i (out.getD (out.length - 1) []) (by rw [ho, List.getD_eq_getElem?_getD, List.getElem?_eq_getElem (by omega)]; exact List.getElem_mem _); show _ + 1 ≤ 4294967296; omega)]
      simp only [go_sem]
      refine res_indexR (es := out.map sE) rfl rfl rfl (by omega) (by simp; omega) ?_
      simp only [go_sem, Int.toNat_natCast]
      refine res_storeR (es := out.map sE) (ds := sE (out.getD (out.length - 1) [] ++ [s[i]])) rfl rfl rfl rfl rfl (by simp; omega) (by simp [sE]) ?_
      simp only [go_sem, wrap_succ (i := i) (by omega)]
      have hpos : ((s.take (i + 1)).foldl segF [[]]).length - 1 = out.length - 1 := by rw [htk]; simp only [segF, hc', if_false, List.length_set]
      refine next_ld (i + 1) 2 (by omega) hlt ?_ ?_ (Nat.zero_le _) (by simp) (by simp [go_sem]) (by simp [HO.inS])
      · simp only [hpos, List.set_cons_succ, List.set_cons_zero, List.take_succ_cons, List.take_zero]
        rw [htk]; simp [segF, hc', List.map_set]
      · simp only [hpos]; exact (by repeat (first | exact lesA_nil | refine lesA_cons (AV.le_any _) ?_ | refine lesA_cons (AV.le_refl _) ?_ | refine lesA_cons (AV.le_pure rfl) ?_))
  · simp only [go_sem]
    have hfin : s.take i = s := List.take_of_length_le hge
    rw [hfin]
    refine ret_ok rfl (.d (.sl false ((segs s).map sE))) [] ?_ rfl
    refine (Weak.freezeRow (t := 0) (id := 1) (pos := (s.foldl segF [[]]).length - 1) (sz := 1) (es := (segs s).map sE) rfl rfl (by simp [sE])).trans ?_
    exact Weak.pures (by simp only [go_sem, List.set_cons_zero]) rfl

def digs : Nat → Str → Option Nat
  | n, [] => some n
  | n, c :: s => if bDigit c then digs (10 * n + (c.toNat - 48)) s else none
def majBad (s : Str) : Bool := decide ((s.length : Int) < 2) || decide (4 < (s.length : Int)) || decide (((s.headD 0).toNat : Int) ≠ 118) || (decide (((s.tail.headD 0).toNat : Int) = 48) && decide (2 < (s.length : Int)))
def majN (s : Str) : Option Nat := if majBad s then none else digs 0 s.tail
def major (s : Str) : Int := match majN s with | some n => n | none => -1
theorem tail_at {s : Str} (h : 1 < s.length) : s[(1 : Int).toNat]? = some (s.tail.headD 0) := by
  match s, h with
  | [_], h => simp at h
  | _ :: c :: s, _ => rfl

theorem ref_major (s : Str) (h : s.length ≤ 1048576) : Fun Tryz.prog 246 [.d (.str s)] (.d (.int .i64 (major s))) := by
  refine ACalls.of_awp false Tryz.func246 (by decide) rfl ?_
  simp only [show Tryz.f246.ntmps = 48 from rfl, List.length_cons, List.length_nil, Nat.reduceAdd, Nat.reduceSub, List.replicate, List.cons_append, List.nil_append, agg, List.map_cons, List.map_nil]
  simp only [go_sem]
  have hb : ∀ b, majBad s = b → (b = true → major s = -1) ∧ (b = false → major s = match digs 0 s.tail with | some n => n | none => -1) := by
    intro b hb; subst hb; constructor <;> intro hb <;> simp [major, majN, hb]
  by_cases h1 : (s.length : Int) < 2
  · simp only [go_sem, h1]
    rw [(hb true (by simp [majBad, h1])).1 rfl]; exact ret_fun rfl (by simp [go_sem]) rfl
  · by_cases h2 : (4 : Int) < s.length
    · simp only [go_sem, h1, h2]
      rw [(hb true (by simp [majBad, h2])).1 rfl]; exact ret_fun rfl (by simp [go_sem]) rfl
    · simp only [go_sem, h1, h2]
      refine res_indexS (Int.le_refl _) (c := s.headD 0) (headD_at (by omega)) ?_
      by_cases h3 : ((s.headD 0).toNat : Int) ≠ 118
      · simp only [go_sem, h3]
        rw [(hb true (by simp only [majBad, h3, ne_eq, not_false_eq_true, decide_true, Bool.or_true, Bool.true_or])).1 rfl]; exact ret_fun rfl (by simp [go_sem]) rfl
      · have h3' : ((s.headD 0).toNat : Int) = 118 := by omega
        simp only [go_sem, h3']
        refine res_indexS (by omega) (c := s.tail.headD 0) (tail_at (by omega)) ?_
        have go : majBad s = false → awp Tryz.prog false 0 (Code.skip) (fun _ _ _ => True) [] [] := fun _ => trivial
        by_cases h4 : ((s.tail.headD 0).toNat : Int) = 48 ∧ (2 : Int) < s.length
        · simp only [go_sem, h4.1, h4.2]
          rw [(hb true (by simp only [majBad, h4.1, h4.2]; simp)).1 rfl]; exact ret_fun rfl (by simp [go_sem]) rfl
        · have hbad : majBad s = false := by
            simp only [majBad, h1, h2, h3', decide_false, Bool.false_or]
            by_cases h5 : ((s.tail.headD 0).toNat : Int) = 48 <;> simp_all
          have h6 : ∀ (Q : AQ) (ts : List AV), True := fun _ _ => trivial
          rw [(hb false hbad).2 rfl]
          by_cases h5 : ((s.tail.headD 0).toNat : Int) = 48
          all_goals
            first
              | (have h7 : ¬ (2 : Int) < s.length := fun e => h4 ⟨h5, e⟩
                 simp only [go_sem, h5, h7])
              | simp only [go_sem, h5]
            refine awp_loop (ι := Nat × Nat) (fun x => [.d (.str s), .any, .any, .d (.int .i64 x.2), .d (.int .i64 x.1), .any, .any, .any, .any, .any, .any, .any, .any, .any, .any, .any, .any, .any, .any, .any, .any, .any, .any, .any, .any, .any, .any, .any, .any, .any, .any, .any, .any, .any, .any, .any, .any, .any, .any, .any, .any, .any, .any, .any, .any, .any, .any, .any]) (fun _ => []) (fun x => s.length - x.1)
              (fun x => x.1 ≤ s.length ∧ (x.1 = 1 ∧ x.2 = 0 ∨ x.1 = 2 ∧ x.2 ≤ 9 ∨ x.1 = 3 ∧ x.2 ≤ 99 ∨ x.1 = 4 ∧ x.2 ≤ 999) ∧ digs 0 s.tail = digs x.2 (s.drop x.1)) (1, 0) ⟨by omega, by simp, by simp⟩ (Weak.les (by repeat (first | exact lesA_nil | refine lesA_cons (AV.le_any _) ?_ | refine lesA_cons (AV.le_refl _) ?_ | refine lesA_cons (AV.le_pure rfl) ?_))) ?_
            rintro ⟨i, n⟩ ⟨hi, hn, ha⟩
            simp only at hi hn ha
            simp only [go_sem]
            refine cnd_lt (fun hlt => ?_) (fun hge => ?_)
            · have hd := List.drop_eq_getElem_cons hlt
              rw [hd, digs] at ha
              simp only [go_sem]
              refine res_indexS (by omega) (c := s[i]) (by simp [hlt]) ?_
              simp only [go_sem]
              refine (ref_digit _).call rfl rfl ?_
              cases hc : bDigit s[i]
              · simp only [go_sem]
                rw [ha]; exact ret_fun rfl (by simp [go_sem, hc]) rfl
              · have hc2 : 48 ≤ s[i].toNat ∧ s[i].toNat ≤ 57 := by simp [bDigit] at hc; omega
                simp only [go_sem]
                refine res_indexS (by omega) (c := s[i]) (by simp [hlt]) ?_
                simp only [go_sem]
                have e1 : IntKind.u8.wrap ((s[i].toNat : Int) - 48) = ((s[i].toNat - 48 : Nat) : Int) := by
                  have : IntKind.u8.wrap ((s[i].toNat : Int) - 48) = ((s[i].toNat : Int) - 48) % 256 := rfl
                  rw [this]; omega
                have e2 : IntKind.i64.wrap (IntKind.i64.wrap (10 * (n : Int)) + IntKind.i64.wrap ((s[i].toNat - 48 : Nat) : Int)) = ((10 * n + (s[i].toNat - 48) : Nat) : Int) := by
                  rw [wrap_i64 (n := 10 * (n : Int)) (by omega) (by omega), wrap_i64 (n := ((s[i].toNat - 48 : Nat) : Int)) (by omega) (by omega), wrap_i64 (by omega) (by omega)]; omega
                simp only [go_sem, e1, e2, wrap_succ (i := i) (by omega)]
                refine ⟨(i + 1, 10 * n + (s[i].toNat - 48)), ?_, ?_, Weak.les (by repeat (first | exact lesA_nil | refine lesA_cons (AV.le_any _) ?_ | refine lesA_cons (AV.le_refl _) ?_ | refine lesA_cons (AV.le_pure rfl) ?_))⟩
                · show s.length - (i + 1) < s.length - i; omega
                · exact ⟨hlt, by show _ ∨ _; omega, by rw [ha]; simp [hc]⟩
            · simp only [go_sem]
              have : s.drop i = [] := List.drop_eq_nil_of_le hge
              rw [ha, this]; exact ret_fun rfl (by simp [go_sem, digs]) rfl

def isPath (s : Str) : Bool := decide ((s.length : Int) ≤ 64) && (segs s).all segOk && decide (2 ≤ ((segs s).length : Int)) && (majN ((segs s).getD ((segs s).length - 1) [])).isSome

theorem ref_Major (s : Str) (h : s.length ≤ 1048576) : Fun Tryz.prog 225 [.d (.str s)] (.tup [.d (.int .i64 (if isPath s then major ((segs s).getD ((segs s).length - 1) []) else 0)), .d (.int .i64 (if isPath s then 0 else 4))]) := by
  refine ACalls.of_awp false Tryz.func225 (by decide) rfl ?_
  simp only [show Tryz.f225.ntmps = 39 from rfl, List.length_cons, List.length_nil, Nat.reduceAdd, Nat.reduceSub, List.replicate, List.cons_append, List.nil_append, agg, List.map_cons, List.map_nil]
  simp only [go_sem]
  refine cnd_if (fun h1 => ?_) (fun h1 => ?_)
  · have h1' : ¬ (s.length : Int) ≤ 64 := by omega
    simp only [go_sem]
    have : isPath s = false := by simp only [isPath, h1', decide_false, Bool.false_and]
    rw [this]; exact ret_fun rfl (by simp [go_sem]) rfl
  · have h1' : (s.length : Int) ≤ 64 := by omega
    simp only [go_sem]
    refine (ref_Segments s h).call rfl rfl ?_
    have hl1 := segs_ne s [[]] (Nat.le_refl _)
    have hl2 := segs_len s [[]]
    have hml : ∀ x ∈ segs s, x.length ≤ 1048576 := fun x hx => by have := segs_mem 0 s [[]] (by simp) x hx; omega
    change 1 ≤ (segs s).length at hl1
    change (segs s).length ≤ _ at hl2
    simp only [List.length_cons, List.length_nil] at hl2
    simp only [go_sem]
    refine awp_loop (ι := Nat) (fun i => [.any, .any, .any, .any, .d (.sl false ((segs s).map sE)), .d (.int .i64 i), .any, .any, .any, .any, .any, .any, .any, .any, .any, .any, .any, .any, .any, .any, .any, .any, .any, .any, .any, .any, .any, .any, .any, .any, .any, .any, .any, .any, .any, .any, .any, .any, .any]) (fun _ => []) (fun i => (segs s).length - i) (fun i => i ≤ (segs s).length ∧ (segs s).all segOk = ((segs s).drop i).all segOk) 0 ⟨by omega, rfl⟩ (Weak.les (by repeat (first | exact lesA_nil | refine lesA_cons (AV.le_any _) ?_ | refine lesA_cons (AV.le_refl _) ?_ | refine lesA_cons (AV.le_pure rfl) ?_))) ?_
    rintro i ⟨hi, ha⟩
    simp only [go_sem]
    refine cnd_lt (fun hlt => ?_) (fun hge => ?_)
    · have hd := List.drop_eq_getElem_cons hlt
      rw [hd, List.all_cons] at ha
      simp only [go_sem]
      refine res_index rfl rfl (by omega) (map_at sE hlt) (sE_len _) ?_
      simp only [go_sem, sE]
      refine (ref_segment _ (by have := hml _ (List.getElem_mem hlt); omega)).call rfl rfl ?_
      cases hc : segOk (segs s)[i]
      · simp only [go_sem]
        have : isPath s = false := by simp only [isPath, ha, hc, Bool.false_and, Bool.and_false]
        rw [this]; exact ret_fun rfl (by simp [go_sem]) rfl
      · simp only [go_sem, wrap_succ (i := i) (by omega)]
        exact next_les (i + 1) (by omega) ⟨hlt, by rw [ha]; simp only [hc, Bool.true_and]⟩ rfl (by repeat (first | exact lesA_nil | refine lesA_cons (AV.le_any _) ?_ | refine lesA_cons (AV.le_refl _) ?_ | refine lesA_cons (AV.le_pure rfl) ?_))
    · have hnil : (segs s).drop i = [] := List.drop_eq_nil_of_le hge
      rw [hnil, List.all_nil] at ha
      have e1 : IntKind.i64.wrap (((segs s).length : Int) - 1) = (((segs s).length - 1 : Nat) : Int) := by rw [wrap_i64 (by omega) (by omega)]; omega
      have hlt : (segs s).length - 1 < (segs s).length := by omega
      simp only [go_sem, e1]
      refine res_index rfl rfl (by omega) (map_at sE hlt) (sE_len _) ?_
      have hget : (segs s).getD ((segs s).length - 1) [] = (segs s)[(segs s).length - 1] := by rw [List.getD_eq_getElem?_getD, List.getElem?_eq_getElem hlt]; rfl
      rw [hget]
      simp only [go_sem, sE]
      refine (ref_major _ (hml _ (List.getElem_mem hlt))).call rfl rfl ?_
      have hp : isPath s = (decide (2 ≤ ((segs s).length : Int)) && (majN (segs s)[(segs s).length - 1]).isSome) := by
        simp only [isPath, h1', ha, decide_true, Bool.true_and, hget]
      have hmaj : major (segs s)[(segs s).length - 1] < 0 ↔ (majN (segs s)[(segs s).length - 1]).isSome = false := by
        unfold major; cases majN (segs s)[(segs s).length - 1] <;> simp
      by_cases h2 : ((segs s).length : Int) < 2
      · have h2' : ¬ (2 : Int) ≤ (segs s).length := by omega
        simp only [go_sem, h2]
        rw [hp]; exact ret_fun rfl (by simp [go_sem, h2']) rfl
      · have h2' : (2 : Int) ≤ (segs s).length := by omega
        by_cases h3 : major (segs s)[(segs s).length - 1] < 0
        · simp only [go_sem, h2, h3]
          rw [hp, hmaj.1 h3]; exact ret_fun rfl (by simp [go_sem, h2']) rfl
        · have h3' : (majN (segs s)[(segs s).length - 1]).isSome = true := by
            cases hx : (majN (segs s)[(segs s).length - 1]).isSome
            · exact absurd (hmaj.2 hx) h3
            · rfl
          simp only [go_sem, h2, h3]
          rw [hp, h3']; exact ret_fun rfl (by simp [go_sem, h2']) rfl

theorem ref_IsPath (s : Str) (h : s.length ≤ 1048576) : Fun Tryz.prog 206 [.d (.str s)] (.d (.bool (isPath s))) := by
  refine ACalls.of_awp false Tryz.func206 (by decide) rfl ?_
  simp only [show Tryz.f206.ntmps = 12 from rfl, List.length_cons, List.length_nil, Nat.reduceAdd, Nat.reduceSub, List.replicate, List.cons_append, List.nil_append, agg, List.map_cons, List.map_nil]
  simp only [go_sem]
  refine (ref_Major s h).call rfl rfl ?_
  cases isPath s <;> (simp only [go_sem]; exact ret_fun rfl (by simp [go_sem]) rfl)

end Go.Proofs.YthhmioodienlmaaGreatDoor

/- The nodes of a type, its depth, first errors: plain lists and numbers. -/
namespace Go.Proofs.YthhmioodienlmaaGreatDoor
open Go

mutual
def Ty.nodes : Ty → List Ty
  | .mk k m n a f => .mk k m n a f :: (Ty.nodesL a ++ Fd.nodesL f)
def Ty.nodesL : List Ty → List Ty
  | [] => []
  | t :: l => t.nodes ++ Ty.nodesL l
def Fd.nodesL : List Fd → List Ty
  | [] => []
  | .mk _ t _ :: l => t.nodes ++ Fd.nodesL l
end
mutual
def Ty.depth : Ty → Nat
  | .mk _ _ _ a f => max (Ty.depthL a) (Fd.depthL f) + 1
def Ty.depthL : List Ty → Nat
  | [] => 0
  | t :: l => max t.depth (Ty.depthL l)
def Fd.depthL : List Fd → Nat
  | [] => 0
  | .mk _ t _ :: l => max t.depth (Fd.depthL l)
end

theorem Ty.nodesL_eq : ∀ l : List Ty, Ty.nodesL l = l.flatMap Ty.nodes
  | [] => rfl
  | t :: l => by simp only [Ty.nodesL, List.flatMap_cons, Ty.nodesL_eq l]
theorem Fd.nodesL_eq : ∀ l : List Fd, Fd.nodesL l = (l.map Fd.type).flatMap Ty.nodes
  | [] => rfl
  | .mk _ t _ :: l => by simp only [Fd.nodesL, List.map_cons, Fd.type, List.flatMap_cons, Fd.nodesL_eq l]
theorem Ty.nodes_eq (t : Ty) : t.nodes = t :: t.parts.flatMap Ty.nodes := by
  cases t; simp only [Ty.nodes, Ty.nodesL_eq, Fd.nodesL_eq, Ty.parts, Ty.args, Ty.fields, List.flatMap_append]

def maxL : List Nat → Nat
  | [] => 0
  | n :: l => max n (maxL l)
theorem maxL_append (a b : List Nat) : maxL (a ++ b) = max (maxL a) (maxL b) := by
  induction a with
  | nil => simp [maxL]
  | cons x a ih => simp only [List.cons_append, maxL, ih]; omega
theorem Ty.depthL_eq : ∀ l : List Ty, Ty.depthL l = maxL (l.map Ty.depth)
  | [] => rfl
  | t :: l => by simp only [Ty.depthL, List.map_cons, maxL, Ty.depthL_eq l]
theorem Fd.depthL_eq : ∀ l : List Fd, Fd.depthL l = maxL ((l.map Fd.type).map Ty.depth)
  | [] => rfl
  | .mk _ t _ :: l => by simp only [Fd.depthL, List.map_cons, Fd.type, maxL, Fd.depthL_eq l]
theorem Ty.depth_eq (t : Ty) : t.depth = maxL (t.parts.map Ty.depth) + 1 := by
  cases t; simp only [Ty.depth, Ty.depthL_eq, Fd.depthL_eq, Ty.parts, Ty.args, Ty.fields, List.map_append, maxL_append]

def Ty.size (t : Ty) : Nat := t.nodes.length
theorem Ty.size_eq (t : Ty) : t.size = (t.parts.map Ty.size).sum + 1 := by
  simp only [Ty.size, Ty.nodes_eq t, List.length_cons, List.length_flatMap]
  rfl
theorem Ty.size_pos (t : Ty) : 1 ≤ t.size := by rw [Ty.size_eq]; omega
theorem sum_mem {l : List Nat} {x : Nat} (h : x ∈ l) : x ≤ l.sum := by
  induction l with
  | nil => simp at h
  | cons y l ih =>
    simp only [List.mem_cons] at h
    simp only [List.sum_cons]
    rcases h with rfl | h
    · omega
    · have := ih h; omega
theorem Ty.part_lt {t p : Ty} (h : p ∈ t.parts) : p.size < t.size := by
  rw [Ty.size_eq t]
  have := sum_mem (List.mem_map_of_mem (f := Ty.size) h)
  omega
theorem Ty.part_nodes {t p u : Ty} (h : p ∈ t.parts) (hu : u ∈ p.nodes) : u ∈ t.nodes := by
  rw [Ty.nodes_eq t]
  exact List.mem_cons_of_mem _ (List.mem_flatMap.2 ⟨p, h, hu⟩)
theorem Ty.mem_nodes (t : Ty) : t ∈ t.nodes := by rw [Ty.nodes_eq]; exact List.mem_cons_self
theorem length_le_sum (l : List Nat) (h : ∀ x ∈ l, 1 ≤ x) : l.length ≤ l.sum := by
  induction l with
  | nil => simp
  | cons x l ih =>
    have := ih (fun y hy => h y (by simp [hy]))
    have := h x (by simp)
    simp only [List.length_cons, List.sum_cons]; omega
theorem Ty.parts_le (t : Ty) : t.parts.length < t.size := by
  rw [Ty.size_eq t]
  have := length_le_sum (t.parts.map Ty.size) (fun x hx => by obtain ⟨p, _, rfl⟩ := List.mem_map.1 hx; exact p.size_pos)
  simp only [List.length_map] at this
  omega
theorem Ty.parts_len (t : Ty) : t.parts.length = t.args.length + t.fields.length := by simp [Ty.parts]
theorem Ty.depth_le (t : Ty) : t.depth ≤ t.size := by
  have key : ∀ n, ∀ t : Ty, t.size ≤ n → t.depth ≤ t.size := by
    intro n
    induction n with
    | zero => intro t h; have := t.size_pos; omega
    | succ n ih =>
      intro t h
      rw [Ty.depth_eq, Ty.size_eq]
      have hp : ∀ p ∈ t.parts, p.depth ≤ p.size := fun p hp => ih p (by have := Ty.part_lt hp; omega)
      have : ∀ l : List Ty, (∀ p ∈ l, p.depth ≤ p.size) → maxL (l.map Ty.depth) ≤ (l.map Ty.size).sum := by
        intro l
        induction l with
        | nil => intro _; exact Nat.le_refl _
        | cons p l ihl =>
          intro h
          have h1 := h p (by simp)
          have h2 := ihl (fun q hq => h q (by simp [hq]))
          simp only [List.map_cons, maxL, List.sum_cons]; omega
      have := this _ hp
      omega
  exact key t.size t (Nat.le_refl _)

/-- the strings of a node are short -/
def Ty.sOk (t : Ty) : Prop := t.module.length ≤ 1048576 ∧ t.name.length ≤ 1048576 ∧ ∀ f ∈ t.fields, f.name.length ≤ 1048576
/-- a type of which we speak -/
def Ty.good (t : Ty) : Prop := (∀ u ∈ t.nodes, u.sOk) ∧ t.size ≤ 2147483648
theorem Ty.good.part {t p : Ty} (h : t.good) (hp : p ∈ t.parts) : p.good := ⟨fun u hu => h.1 u (Ty.part_nodes hp hu), by have := Ty.part_lt hp; have := h.2; omega⟩
theorem Ty.good.s {t : Ty} (h : t.good) : t.sOk := h.1 t t.mem_nodes
theorem Ty.good.len {t : Ty} (h : t.good) : t.args.length + t.fields.length ≤ 2147483647 := by
  have := t.parts_le; rw [Ty.parts_len] at this; have := h.2; omega
theorem Ty.args_parts {t p : Ty} (h : p ∈ t.args) : p ∈ t.parts := by simp [Ty.parts, h]
theorem Ty.field_parts {t : Ty} {f : Fd} (h : f ∈ t.fields) : f.type ∈ t.parts := by simp only [Ty.parts, List.mem_append, List.mem_map]; exact .inr ⟨f, h, rfl⟩

def firstErr : List Int → Int
  | [] => 0
  | e :: l => if e = 0 then firstErr l else e
theorem firstErr_append (a b : List Int) : firstErr (a ++ b) = if firstErr a = 0 then firstErr b else firstErr a := by
  induction a with
  | nil => simp [firstErr]
  | cons e a ih =>
    simp only [List.cons_append, firstErr, ih]
    by_cases h : e = 0 <;> simp [h]
theorem firstErr_nodes (f : Ty → Int) (t : Ty) : firstErr (t.nodes.map f) = if f t = 0 then firstErr (t.parts.map fun p => firstErr (p.nodes.map f)) else f t := by
  have key : ∀ l : List Ty, firstErr ((l.flatMap Ty.nodes).map f) = firstErr (l.map fun p => firstErr (p.nodes.map f)) := by
    intro l
    induction l with
    | nil => rfl
    | cons p l ih => simp only [List.flatMap_cons, List.map_append, firstErr_append, ih, List.map_cons, firstErr]
  rw [Ty.nodes_eq t, List.map_cons, firstErr, key]

theorem ty_induct {M : Ty → Prop} (h : ∀ t, (∀ p ∈ t.parts, M p) → M t) (t : Ty) : M t := by
  have key : ∀ n, ∀ t : Ty, t.size ≤ n → M t := by
    intro n
    induction n with
    | zero => intro t h; have := t.size_pos; omega
    | succ n ih => intro t ht; exact h t fun p hp => ih p (by have := Ty.part_lt hp; omega)
  exact key t.size t (Nat.le_refl _)

end Go.Proofs.YthhmioodienlmaaGreatDoor

/- Contracts of the reference's functions on types (chapter 4). -/
namespace Go.Proofs.YthhmioodienlmaaGreatDoor
open Go
set_option maxRecDepth 20000
set_option pp.deepTerms false
set_option pp.deepTerms.threshold 6

theorem ref_Parts (t : Ty) (hg : t.good) : Fun Tryz.prog 26 [agg t.enc] (.d (.sl false (t.parts.map Ty.enc))) := by
  have h := hg.len
  refine ACalls.of_awp false Tryz.func26 (by decide) rfl ?_
  simp only [show Tryz.f26.ntmps = 26 from rfl, List.length_cons, List.length_nil, Nat.reduceAdd, Nat.reduceSub, List.replicate, List.cons_append, List.nil_append, agg, List.map_cons, List.map_nil]
  simp only [Ty.enc_eq t, List.map_cons, List.map_nil]
  simp only [go_sem]
  refine aAppend_nil rfl (Ty.encs_len _) (by decide) (by simp [lim]; omega) ?_
  simp only [go_sem]
  refine awp_loop (ι := Nat)
    (fun i => [.any, .ptr 0 0, .any, .vec 1 (t.args.length + i) (t.args.map Ty.enc ++ (t.fields.take i).map (fun f => f.type.enc)), .d (.int .i64 i), .any, .any, .any, .any, .any, .any, .any, .any, .any, .any, .any, .any, .any, .any, .any, .any, .any, .any, .any, .any, .any])
    (fun i => [.cells [.d (.int .i64 t.kind), .d (.str t.module), .d (.str t.name), .d (.sl false (t.args.map Ty.enc)), .d (.sl false (t.fields.map Fd.enc))], .tip (t.args.length + i) 5])
    (fun i => t.fields.length - i) (fun i => i ≤ t.fields.length) 0 (Nat.zero_le _) (by simp only [Nat.add_zero, List.take_zero, List.map_nil, List.append_nil]; exact Weak.les (by repeat (first | exact lesA_nil | refine lesA_cons (AV.le_any _) ?_ | refine lesA_cons (AV.le_refl _) ?_ | refine lesA_cons (AV.le_pure rfl) ?_))) ?_
  · intro i hi
    simp only [go_sem]
    refine cnd_lt (fun hlt => ?_) (fun hge => ?_)
    · simp only [go_sem]
      refine res_index rfl rfl (by omega) (map_at Fd.enc hlt) (Fd.enc_len _) ?_
      simp only [go_sem, Fd.enc_eq, Ty.enc_take, le_true (Ty.enc_le _ _)]
      rw [oBuildSlice_1 rfl (Ty.enc_len _) (by decide)]
      simp only [go_sem]
      refine aAppend_vec rfl (by simp [Ty.enc_len]) (by decide) rfl (by simp [lim]; omega) ?_
      simp only [go_sem, wrap_succ (i := i) (by omega)]
      refine next_les (i + 1) (by omega) hlt ?_ ?_
      · rfl
      · simp only [List.take_succ_eq_append_getElem hlt, List.map_append, List.map_cons, List.map_nil, List.append_assoc]
        exact (by repeat (first | exact lesA_nil | refine lesA_cons (AV.le_any _) ?_ | refine lesA_cons (AV.le_refl _) ?_ | refine lesA_cons (AV.le_pure rfl) ?_))
    · simp only [go_sem]
      have : i = t.fields.length := by omega
      subst this
      refine ret_fun rfl ?_ rfl
      simp only [go_sem, List.take_length, Ty.parts, List.map_append, List.map_map]
      rw [normE_map (fun f => f.type.enc_norm)]
      rfl

theorem ref_TypeSize (t : Ty) (hg : t.good) : Fun Tryz.prog 9 [agg t.enc] (.d (.int .i64 t.size)) := by
  revert hg
  refine ty_induct (M := fun t => t.good → Fun Tryz.prog 9 [agg t.enc] (.d (.int .i64 t.size))) (fun t ih hg => ?_) t
  have hs := hg.2
  have hp := t.parts_le
  refine ACalls.of_awp false Tryz.func9 (by decide) rfl ?_
  simp only [show Tryz.f9.ntmps = 22 from rfl, List.length_cons, List.length_nil, Nat.reduceAdd, Nat.reduceSub, List.replicate, List.cons_append, List.nil_append, agg, List.map_cons, List.map_nil]
  simp only [go_sem]
  refine (ref_Parts t hg).call (by simp only [go_sem, agg]) rfl ?_
  simp only [go_sem]
  refine awp_loop (ι := Nat × Nat) (fun x => [.any, .any, .any, .d (.int .i64 x.2), .d (.sl false (t.parts.map Ty.enc)), .d (.int .i64 x.1), .any, .any, .any, .any, .any, .any, .any, .any, .any, .any, .any, .any, .any, .any, .any, .any]) (fun _ => []) (fun x => t.parts.length - x.1)
    (fun x => x.1 ≤ t.parts.length ∧ x.2 + ((t.parts.drop x.1).map Ty.size).sum = t.size) (0, 1) ⟨by omega, by simp only [List.drop_zero]; have := t.size_eq; omega⟩ (Weak.ld 0 (by repeat (first | exact lesA_nil | refine lesA_cons (AV.le_any _) ?_ | refine lesA_cons (AV.le_refl _) ?_ | refine lesA_cons (AV.le_pure rfl) ?_)) (Nat.le_refl _) (by simp) (by simp [go_sem]) (by simp)) ?_
  rintro ⟨i, n⟩ ⟨hi, ha⟩
  simp only at hi ha
  simp only [go_sem]
  refine cnd_lt (fun hlt => ?_) (fun hge => ?_)
  · have hd := List.drop_eq_getElem_cons hlt
    rw [hd, List.map_cons, List.sum_cons] at ha
    have hm : t.parts[i] ∈ t.parts := List.getElem_mem hlt
    simp only [go_sem]
    refine res_index rfl rfl (by omega) (map_at Ty.enc hlt) (Ty.enc_len _) ?_
    simp only [go_sem]
    refine (ih _ hm (hg.part hm)).call (by simp only [go_sem, agg]) rfl ?_
    simp only [go_sem, wrap_succ (i := i) (by omega), wrap_add (i := n) (j := t.parts[i].size) (by omega)]
    exact ⟨(i + 1, n + t.parts[i].size), by show _ - (i + 1) < _ - i; omega, ⟨hlt, by show (n + t.parts[i].size) + ((t.parts.drop (i + 1)).map Ty.size).sum = t.size; omega⟩, Weak.les (by repeat (first | exact lesA_nil | refine lesA_cons (AV.le_any _) ?_ | refine lesA_cons (AV.le_refl _) ?_ | refine lesA_cons (AV.le_pure rfl) ?_))⟩
  · simp only [go_sem]
    have hnil : t.parts.drop i = [] := List.drop_eq_nil_of_le hge
    rw [hnil] at ha
    simp only [List.map_nil, List.sum_nil, Nat.add_zero] at ha
    exact ret_fun rfl (by simp [go_sem, ha]) rfl

theorem ref_TypeDepth (t : Ty) (hg : t.good) : Fun Tryz.prog 65 [agg t.enc] (.d (.int .i64 t.depth)) := by
  revert hg
  refine ty_induct (M := fun t => t.good → Fun Tryz.prog 65 [agg t.enc] (.d (.int .i64 t.depth))) (fun t ih hg => ?_) t
  have hs := hg.2
  have hp := t.parts_le
  have hdp := t.depth_le
  refine ACalls.of_awp false Tryz.func65 (by decide) rfl ?_
  simp only [show Tryz.f65.ntmps = 23 from rfl, List.length_cons, List.length_nil, Nat.reduceAdd, Nat.reduceSub, List.replicate, List.cons_append, List.nil_append, agg, List.map_cons, List.map_nil]
  simp only [go_sem]
  refine (ref_Parts t hg).call (by simp only [go_sem, agg]) rfl ?_
  simp only [go_sem]
  refine awp_loop (ι := Nat × Nat) (fun x => [.any, .any, .any, .d (.int .i64 x.2), .d (.sl false (t.parts.map Ty.enc)), .d (.int .i64 x.1), .any, .any, .any, .any, .any, .any, .any, .any, .any, .any, .any, .any, .any, .any, .any, .any, .any]) (fun _ => []) (fun x => t.parts.length - x.1)
    (fun x => x.1 ≤ t.parts.length ∧ max x.2 (maxL ((t.parts.drop x.1).map Ty.depth)) + 1 = t.depth) (0, 0) ⟨by omega, by simp only [List.drop_zero]; have := t.depth_eq; omega⟩ (Weak.ld 0 (by repeat (first | exact lesA_nil | refine lesA_cons (AV.le_any _) ?_ | refine lesA_cons (AV.le_refl _) ?_ | refine lesA_cons (AV.le_pure rfl) ?_)) (Nat.le_refl _) (by simp) (by simp [go_sem]) (by simp)) ?_
  rintro ⟨i, n⟩ ⟨hi, ha⟩
  simp only at hi ha
  simp only [go_sem]
  refine cnd_lt (fun hlt => ?_) (fun hge => ?_)
  · have hd := List.drop_eq_getElem_cons hlt
    rw [hd, List.map_cons, maxL] at ha
    have hm : t.parts[i] ∈ t.parts := List.getElem_mem hlt
    simp only [go_sem]
    refine res_index rfl rfl (by omega) (map_at Ty.enc hlt) (Ty.enc_len _) ?_
    simp only [go_sem]
    refine (ih _ hm (hg.part hm)).call (by simp only [go_sem, agg]) rfl ?_
    simp only [go_sem, wrap_succ (i := i) (by omega)]
    exact ⟨(i + 1, max n t.parts[i].depth), by show _ - (i + 1) < _ - i; omega, ⟨hlt, by show max (max n t.parts[i].depth) (maxL ((t.parts.drop (i + 1)).map Ty.depth)) + 1 = t.depth; omega⟩, Weak.les (by repeat (first | exact lesA_nil | refine lesA_cons (AV.le_any _) ?_ | refine lesA_cons (AV.le_refl _) ?_ | refine lesA_cons (AV.le_pure rfl) ?_))⟩
  · simp only [go_sem]
    have hnil : t.parts.drop i = [] := List.drop_eq_nil_of_le hge
    rw [hnil] at ha
    simp only [List.map_nil, maxL] at ha
    have e1 : IntKind.i64.wrap ((n : Int) + 1) = (t.depth : Int) := by rw [wrap_i64 (by omega) (by omega)]; omega
    simp only [go_sem, e1]
    exact ret_fun rfl (by simp [go_sem]) rfl

def module (s : Str) : Bool := decide (s = []) || isName s || isPath s
def variable' (s : Str) : Bool := isType s || (decide ((s.length : Int) = 2) && decide (((s.headD 0).toNat : Int) = 35) && decide (48 ≤ ((s.tail.headD 0).toNat : Int)) && decide (((s.tail.headD 0).toNat : Int) ≤ 55))
theorem ref_module (s : Str) (h : s.length ≤ 1048576) : Fun Tryz.prog 161 [.d (.str s)] (.d (.bool (module s))) := by
  refine ACalls.of_awp false Tryz.func161 (by decide) rfl ?_
  simp only [show Tryz.f161.ntmps = 13 from rfl, List.length_cons, List.length_nil, Nat.reduceAdd, Nat.reduceSub, List.replicate, List.cons_append, List.nil_append, agg, List.map_cons, List.map_nil]
  unfold module
  by_cases h1 : s = []
  · subst h1
    simp only [go_sem]
    exact ret_fun rfl (by simp [go_sem]) rfl
  · simp only [go_sem, h1]
    refine (ref_IsName s (by omega)).call rfl rfl ?_
    cases isName s
    · simp only [go_sem]
      refine (ref_IsPath s h).call rfl rfl ?_
      cases isPath s <;> (simp only [go_sem]; exact ret_fun rfl (by simp [go_sem, h1]) rfl)
    · simp only [go_sem]; exact ret_fun rfl (by simp [go_sem, h1]) rfl

theorem ref_Variable (s : Str) (h : s.length ≤ 1048576) : Fun Tryz.prog 160 [.d (.str s)] (.d (.bool (variable' s))) := by
  refine ACalls.of_awp false Tryz.func160 (by decide) rfl ?_
  simp only [show Tryz.f160.ntmps = 25 from rfl, List.length_cons, List.length_nil, Nat.reduceAdd, Nat.reduceSub, List.replicate, List.cons_append, List.nil_append, agg, List.map_cons, List.map_nil]
  unfold variable'
  simp only [go_sem]
  refine (ref_IsType s (by omega)).call rfl rfl ?_
  cases isType s
  · by_cases h1 : (s.length : Int) = 2
    · simp only [go_sem, h1]
      refine res_indexS (Int.le_refl _) (c := s.headD 0) (headD_at (by omega)) ?_
      by_cases h2 : ((s.headD 0).toNat : Int) = 35
      · simp only [go_sem, h2]
        refine res_indexS (by omega) (c := s.tail.headD 0) (tail_at (by omega)) ?_
        by_cases h3 : (48 : Int) ≤ (s.tail.headD 0).toNat
        · simp only [go_sem, h3]
          refine res_indexS (by omega) (c := s.tail.headD 0) (tail_at (by omega)) ?_
          simp only [go_sem]
          exact ret_fun rfl (by simp [go_sem, h1, h2, h3]) rfl
        · simp only [go_sem, h3]; exact ret_fun rfl (by simp [go_sem, h1, h2, h3]) rfl
      · simp only [go_sem, h2]; exact ret_fun rfl (by simp [go_sem, h1, h2]) rfl
    · simp only [go_sem, h1]; exact ret_fun rfl (by simp [go_sem, h1]) rfl
  · simp only [go_sem]; exact ret_fun rfl (by simp [go_sem]) rfl

def nb (a b : Str) : Int := if a = b then 5 else if strLt a b || decide (a = b) then 0 else 1
theorem ref_neighbours (a b : Str) : Fun Tryz.prog 164 [.d (.str a), .d (.str b)] (.d (.int .i64 (nb a b))) := by
  refine ACalls.of_awp false Tryz.func164 (by decide) rfl ?_
  simp only [show Tryz.f164.ntmps = 11 from rfl, List.length_cons, List.length_nil, Nat.reduceAdd, Nat.reduceSub, List.replicate, List.cons_append, List.nil_append, agg, List.map_cons, List.map_nil]
  unfold nb
  by_cases h1 : a = b
  · simp only [go_sem, h1]; exact ret_fun rfl (by simp [go_sem]) rfl
  · simp only [go_sem, h1]
    cases h2 : strLt a b <;> (simp only [go_sem, h2]; exact ret_fun rfl (by simp [go_sem, h1, h2]) rfl)

end Go.Proofs.YthhmioodienlmaaGreatDoor
