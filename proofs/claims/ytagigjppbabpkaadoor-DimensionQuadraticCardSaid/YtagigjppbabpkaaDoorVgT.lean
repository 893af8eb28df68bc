/- States in letters: the types' table of this seat. -/
import Derived.Test.YtagigjppbabpkaaDoorRows
import Derived.Test.YtagigjppbabpkaaDoorPkVgI
import Derived.ProofKit
namespace Go.Proofs.YtagigjppbabpkaaDoor
open Go Go.RowKit Go.VG
def tysX : List (TypeId × TyD) := [
  (2, ⟨.int .i64, 1, 8, [.int .i64 (0)]⟩),
  (3, ⟨.int .i64, 1, 8, [.int .i64 (0)]⟩),
  (4, ⟨.bool, 1, 1, [.bool false]⟩),
  (5, ⟨.int .u8, 1, 1, [.int .u8 (0)]⟩),
  (6, ⟨.int .u8, 1, 1, [.int .u8 (0)]⟩),
  (7, ⟨.struct [(0, 2), (1, 3), (2, 4), (3, 6)], 4, 24, [.int .i64 (0), .int .i64 (0), .bool false, .int .u8 (0)]⟩),
  (8, ⟨.struct [(0, 2), (1, 3), (2, 4), (3, 6)], 4, 24, [.int .i64 (0), .int .i64 (0), .bool false, .int .u8 (0)]⟩),
  (12, ⟨.int .u64, 1, 8, [.int .u64 (0)]⟩),
  (13, ⟨.struct [(0, 9), (1, 12)], 2, 24, [.string { data := #[] }, .int .u64 (0)]⟩),
  (14, ⟨.struct [(0, 9), (1, 12)], 2, 24, [.string { data := #[] }, .int .u64 (0)]⟩),
  (15, ⟨.ptr 152, 1, 8, [.pointer none]⟩),
  (16, ⟨.ptr 155, 1, 8, [.pointer none]⟩),
  (17, ⟨.ptr 163, 1, 8, [.pointer none]⟩),
  (18, ⟨.struct [(0, 17)], 1, 8, [.pointer none]⟩),
  (19, ⟨.struct [(0, 17)], 1, 8, [.pointer none]⟩),
  (21, ⟨.int .i32, 1, 4, [.int .i32 (0)]⟩),
  (23, ⟨.slice 3, 1, 24, [.slice none 0 0]⟩),
  (24, ⟨.int .i64, 1, 8, [.int .i64 (0)]⟩),
  (32, ⟨.struct [(0, 3), (1, 23)], 2, 32, [.int .i64 (0), .slice none 0 0]⟩),
  (33, ⟨.struct [(0, 3), (1, 23)], 2, 32, [.int .i64 (0), .slice none 0 0]⟩),
  (47, ⟨.struct [(0, 4), (1, 3), (2, 3)], 3, 24, [.bool false, .int .i64 (0), .int .i64 (0)]⟩),
  (48, ⟨.struct [(0, 4), (1, 3), (2, 3)], 3, 24, [.bool false, .int .i64 (0), .int .i64 (0)]⟩),
  (53, ⟨.int .i16, 1, 2, [.int .i16 (0)]⟩),
  (54, ⟨.arr 2 53, 2, 4, [.int .i16 (0), .int .i16 (0)]⟩),
  (55, ⟨.int .i8, 1, 1, [.int .i8 (0)]⟩),
  (63, ⟨.slice 33, 1, 24, [.slice none 0 0]⟩),
  (70, ⟨.struct [(0, 3), (1, 3), (2, 3)], 3, 24, [.int .i64 (0), .int .i64 (0), .int .i64 (0)]⟩),
  (71, ⟨.struct [(0, 3), (1, 3), (2, 3)], 3, 24, [.int .i64 (0), .int .i64 (0), .int .i64 (0)]⟩),
  (75, ⟨.slice 78, 1, 24, [.slice none 0 0]⟩),
  (77, ⟨.struct [(0, 3), (1, 3), (2, 3)], 3, 24, [.int .i64 (0), .int .i64 (0), .int .i64 (0)]⟩),
  (78, ⟨.struct [(0, 3), (1, 3), (2, 3)], 3, 24, [.int .i64 (0), .int .i64 (0), .int .i64 (0)]⟩),
  (79, ⟨.struct [(0, 3), (1, 3)], 2, 16, [.int .i64 (0), .int .i64 (0)]⟩),
  (80, ⟨.struct [(0, 3), (1, 3)], 2, 16, [.int .i64 (0), .int .i64 (0)]⟩),
  (83, ⟨.slice 80, 1, 24, [.slice none 0 0]⟩),
  (93, ⟨.struct [(0, 3), (1, 3), (2, 3), (3, 3), (4, 3), (5, 3), (6, 4)], 7, 56, [.int .i64 (0), .int .i64 (0), .int .i64 (0), .int .i64 (0), .int .i64 (0), .int .i64 (0), .bool false]⟩),
  (94, ⟨.struct [(0, 3), (1, 3), (2, 3), (3, 3), (4, 3), (5, 3), (6, 4)], 7, 56, [.int .i64 (0), .int .i64 (0), .int .i64 (0), .int .i64 (0), .int .i64 (0), .int .i64 (0), .bool false]⟩),
  (96, ⟨.struct [(0, 3), (1, 3), (2, 3), (3, 3), (4, 3)], 5, 40, [.int .i64 (0), .int .i64 (0), .int .i64 (0), .int .i64 (0), .int .i64 (0)]⟩),
  (97, ⟨.struct [(0, 3), (1, 3), (2, 3), (3, 3), (4, 3)], 5, 40, [.int .i64 (0), .int .i64 (0), .int .i64 (0), .int .i64 (0), .int .i64 (0)]⟩),
  (102, ⟨.slice 106, 1, 24, [.slice none 0 0]⟩),
  (105, ⟨.struct [(0, 3), (1, 3)], 2, 16, [.int .i64 (0), .int .i64 (0)]⟩),
  (106, ⟨.struct [(0, 3), (1, 3)], 2, 16, [.int .i64 (0), .int .i64 (0)]⟩),
  (114, ⟨.int .u64, 1, 8, [.int .u64 (0)]⟩),
  (123, ⟨.arr 64 5, 64, 64, [.int .u8 (0), .int .u8 (0), .int .u8 (0), .int .u8 (0), .int .u8 (0), .int .u8 (0), .int .u8 (0), .int .u8 (0), .int .u8 (0), .int .u8 (0), .int .u8 (0), .int .u8 (0), .int .u8 (0), .int .u8 (0), .int .u8 (0), .int .u8 (0), .int .u8 (0), .int .u8 (0), .int .u8 (0), .int .u8 (0), .int .u8 (0), .int .u8 (0), .int .u8 (0), .int .u8 (0), .int .u8 (0), .int .u8 (0), .int .u8 (0), .int .u8 (0), .int .u8 (0), .int .u8 (0), .int .u8 (0), .int .u8 (0), .int .u8 (0), .int .u8 (0), .int .u8 (0), .int .u8 (0), .int .u8 (0), .int .u8 (0), .int .u8 (0), .int .u8 (0), .int .u8 (0), .int .u8 (0), .int .u8 (0), .int .u8 (0), .int .u8 (0), .int .u8 (0), .int .u8 (0), .int .u8 (0), .int .u8 (0), .int .u8 (0), .int .u8 (0), .int .u8 (0), .int .u8 (0), .int .u8 (0), .int .u8 (0), .int .u8 (0), .int .u8 (0), .int .u8 (0), .int .u8 (0), .int .u8 (0), .int .u8 (0), .int .u8 (0), .int .u8 (0), .int .u8 (0)]⟩),
  (124, ⟨.int .u64, 1, 8, [.int .u64 (0)]⟩),
  (129, ⟨.arr 6 3, 6, 48, [.int .i64 (0), .int .i64 (0), .int .i64 (0), .int .i64 (0), .int .i64 (0), .int .i64 (0)]⟩),
  (131, ⟨.int .i64, 1, 8, [.int .i64 (0)]⟩),
  (140, ⟨.int .u32, 1, 4, [.int .u32 (0)]⟩),
  (141, ⟨.int .u64, 1, 8, [.int .u64 (0)]⟩),
  (145, ⟨.ptr 3, 1, 8, [.pointer none]⟩),
  (147, ⟨.ptr 141, 1, 8, [.pointer none]⟩)]
theorem tysX_ok : TysOk Tryd.prog tysX := by
  refine ⟨by kernel_rfl, by kernel_rfl, by kernel_rfl, by kernel_rfl, by kernel_rfl, by kernel_rfl, by kernel_rfl, by kernel_rfl, by kernel_rfl, by kernel_rfl, by kernel_rfl, by kernel_rfl, by kernel_rfl, by kernel_rfl, by kernel_rfl, by kernel_rfl, by kernel_rfl, by kernel_rfl, by kernel_rfl, by kernel_rfl, by kernel_rfl, by kernel_rfl, by kernel_rfl, by kernel_rfl, by kernel_rfl, by kernel_rfl, by kernel_rfl, by kernel_rfl, by kernel_rfl, by kernel_rfl, by kernel_rfl, by kernel_rfl, by kernel_rfl, by kernel_rfl, by kernel_rfl, by kernel_rfl, by kernel_rfl, by kernel_rfl, by kernel_rfl, by kernel_rfl, by kernel_rfl, by kernel_rfl, by kernel_rfl, by kernel_rfl, by kernel_rfl, by kernel_rfl, by kernel_rfl, by kernel_rfl, by kernel_rfl, by kernel_rfl, trivial⟩
theorem mixed : Tryd.prog.follows .mixedOrders = true := by kernel_rfl
end Go.Proofs.YtagigjppbabpkaaDoor
