/- States in letters: the types' table of this seat. -/
import Derived.Test.YteamlpflgfmieaaDoorRows
import Derived.Test.YteamlpflgfmieaaDoorPkVgI
import Derived.ProofKit
namespace Go.Proofs.YteamlpflgfmieaaDoor
open Go Go.RowKit Go.VG
def tysX : List (TypeId × TyD) := [
  (2, ⟨.int .i64, 1, 8, [.int .i64 (0)]⟩),
  (3, ⟨.int .i64, 1, 8, [.int .i64 (0)]⟩),
  (4, ⟨.bool, 1, 1, [.bool false]⟩),
  (5, ⟨.int .u8, 1, 1, [.int .u8 (0)]⟩),
  (6, ⟨.int .u8, 1, 1, [.int .u8 (0)]⟩),
  (7, ⟨.struct [(0, 2), (1, 3), (2, 4), (3, 6)], 4, 24, [.int .i64 (0), .int .i64 (0), .bool false, .int .u8 (0)]⟩),
  (8, ⟨.struct [(0, 2), (1, 3), (2, 4), (3, 6)], 4, 24, [.int .i64 (0), .int .i64 (0), .bool false, .int .u8 (0)]⟩),
  (12, ⟨.int .u64, 1, 8, [.int .u64 (0)]⟩),
  (13, ⟨.struct [(0, 9), (1, 12)], 2, 24, [.string { data := #[] }, .int .u64 (0)]⟩),
  (14, ⟨.struct [(0, 9), (1, 12)], 2, 24, [.string { data := #[] }, .int .u64 (0)]⟩),
  (15, ⟨.ptr 97, 1, 8, [.pointer none]⟩),
  (16, ⟨.ptr 100, 1, 8, [.pointer none]⟩),
  (17, ⟨.ptr 108, 1, 8, [.pointer none]⟩),
  (18, ⟨.struct [(0, 17)], 1, 8, [.pointer none]⟩),
  (19, ⟨.struct [(0, 17)], 1, 8, [.pointer none]⟩),
  (21, ⟨.int .i32, 1, 4, [.int .i32 (0)]⟩),
  (22, ⟨.struct [(0, 3), (1, 3), (2, 3)], 3, 24, [.int .i64 (0), .int .i64 (0), .int .i64 (0)]⟩),
  (23, ⟨.struct [(0, 3), (1, 3), (2, 3)], 3, 24, [.int .i64 (0), .int .i64 (0), .int .i64 (0)]⟩),
  (26, ⟨.int .i64, 1, 8, [.int .i64 (0)]⟩),
  (31, ⟨.slice 3, 1, 24, [.slice none 0 0]⟩),
  (33, ⟨.struct [(0, 3), (1, 3), (2, 3), (3, 3), (4, 3), (5, 3), (6, 4)], 7, 56, [.int .i64 (0), .int .i64 (0), .int .i64 (0), .int .i64 (0), .int .i64 (0), .int .i64 (0), .bool false]⟩),
  (34, ⟨.struct [(0, 3), (1, 3), (2, 3), (3, 3), (4, 3), (5, 3), (6, 4)], 7, 56, [.int .i64 (0), .int .i64 (0), .int .i64 (0), .int .i64 (0), .int .i64 (0), .int .i64 (0), .bool false]⟩),
  (46, ⟨.struct [(0, 3), (1, 3), (2, 3), (3, 3), (4, 3)], 5, 40, [.int .i64 (0), .int .i64 (0), .int .i64 (0), .int .i64 (0), .int .i64 (0)]⟩),
  (47, ⟨.struct [(0, 3), (1, 3), (2, 3), (3, 3), (4, 3)], 5, 40, [.int .i64 (0), .int .i64 (0), .int .i64 (0), .int .i64 (0), .int .i64 (0)]⟩),
  (53, ⟨.arr 6 3, 6, 48, [.int .i64 (0), .int .i64 (0), .int .i64 (0), .int .i64 (0), .int .i64 (0), .int .i64 (0)]⟩),
  (56, ⟨.slice 60, 1, 24, [.slice none 0 0]⟩),
  (59, ⟨.struct [(0, 3), (1, 3)], 2, 16, [.int .i64 (0), .int .i64 (0)]⟩),
  (60, ⟨.struct [(0, 3), (1, 3)], 2, 16, [.int .i64 (0), .int .i64 (0)]⟩),
  (68, ⟨.int .u64, 1, 8, [.int .u64 (0)]⟩),
  (74, ⟨.int .u64, 1, 8, [.int .u64 (0)]⟩),
  (75, ⟨.arr 64 5, 64, 64, [.int .u8 (0), .int .u8 (0), .int .u8 (0), .int .u8 (0), .int .u8 (0), .int .u8 (0), .int .u8 (0), .int .u8 (0), .int .u8 (0), .int .u8 (0), .int .u8 (0), .int .u8 (0), .int .u8 (0), .int .u8 (0), .int .u8 (0), .int .u8 (0), .int .u8 (0), .int .u8 (0), .int .u8 (0), .int .u8 (0), .int .u8 (0), .int .u8 (0), .int .u8 (0), .int .u8 (0), .int .u8 (0), .int .u8 (0), .int .u8 (0), .int .u8 (0), .int .u8 (0), .int .u8 (0), .int .u8 (0), .int .u8 (0), .int .u8 (0), .int .u8 (0), .int .u8 (0), .int .u8 (0), .int .u8 (0), .int .u8 (0), .int .u8 (0), .int .u8 (0), .int .u8 (0), .int .u8 (0), .int .u8 (0), .int .u8 (0), .int .u8 (0), .int .u8 (0), .int .u8 (0), .int .u8 (0), .int .u8 (0), .int .u8 (0), .int .u8 (0), .int .u8 (0), .int .u8 (0), .int .u8 (0), .int .u8 (0), .int .u8 (0), .int .u8 (0), .int .u8 (0), .int .u8 (0), .int .u8 (0), .int .u8 (0), .int .u8 (0), .int .u8 (0), .int .u8 (0)]⟩),
  (77, ⟨.int .i64, 1, 8, [.int .i64 (0)]⟩),
  (85, ⟨.int .u32, 1, 4, [.int .u32 (0)]⟩),
  (86, ⟨.int .u64, 1, 8, [.int .u64 (0)]⟩),
  (90, ⟨.ptr 3, 1, 8, [.pointer none]⟩),
  (92, ⟨.ptr 86, 1, 8, [.pointer none]⟩),
  (96, ⟨.struct [(0, 17), (1, 17), (2, 17), (3, 9)], 4, 40, [.pointer none, .pointer none, .pointer none, .string { data := #[] }]⟩),
  (97, ⟨.struct [(0, 17), (1, 17), (2, 17), (3, 9)], 4, 40, [.pointer none, .pointer none, .pointer none, .string { data := #[] }]⟩),
  (98, ⟨.arr 0 16, 0, 0, []⟩),
  (99, ⟨.struct [(0, 98)], 0, 0, []⟩),
  (100, ⟨.struct [(0, 98)], 0, 0, []⟩),
  (101, ⟨.int .u8, 1, 1, [.int .u8 (0)]⟩),
  (102, ⟨.int .u8, 1, 1, [.int .u8 (0)]⟩),
  (104, ⟨.ptr 5, 1, 8, [.pointer none]⟩),
  (105, ⟨.int .i32, 1, 4, [.int .i32 (0)]⟩),
  (106, ⟨.int .i32, 1, 4, [.int .i32 (0)]⟩),
  (107, ⟨.struct [(0, 12), (1, 12), (2, 85), (3, 101), (4, 5), (5, 5), (6, 102), (7, 103), (8, 104), (9, 105), (10, 106)], 11, 48, [.int .u64 (0), .int .u64 (0), .int .u32 (0), .int .u8 (0), .int .u8 (0), .int .u8 (0), .int .u8 (0), .nilFunc, .pointer none, .int .i32 (0), .int .i32 (0)]⟩),
  (108, ⟨.struct [(0, 12), (1, 12), (2, 85), (3, 101), (4, 5), (5, 5), (6, 102), (7, 103), (8, 104), (9, 105), (10, 106)], 11, 48, [.int .u64 (0), .int .u64 (0), .int .u32 (0), .int .u8 (0), .int .u8 (0), .int .u8 (0), .int .u8 (0), .nilFunc, .pointer none, .int .i32 (0), .int .i32 (0)]⟩)]
theorem tysX_ok : TysOk Tryd.prog tysX := by
  refine ⟨by kernel_rfl, by kernel_rfl, by kernel_rfl, by kernel_rfl, by kernel_rfl, by kernel_rfl, by kernel_rfl, by kernel_rfl, by kernel_rfl, by kernel_rfl, by kernel_rfl, by kernel_rfl, by kernel_rfl, by kernel_rfl, by kernel_rfl, by kernel_rfl, by kernel_rfl, by kernel_rfl, by kernel_rfl, by kernel_rfl, by kernel_rfl, by kernel_rfl, by kernel_rfl, by kernel_rfl, by kernel_rfl, by kernel_rfl, by kernel_rfl, by kernel_rfl, by kernel_rfl, by kernel_rfl, by kernel_rfl, by kernel_rfl, by kernel_rfl, by kernel_rfl, by kernel_rfl, by kernel_rfl, by kernel_rfl, by kernel_rfl, by kernel_rfl, by kernel_rfl, by kernel_rfl, by kernel_rfl, by kernel_rfl, by kernel_rfl, by kernel_rfl, by kernel_rfl, by kernel_rfl, by kernel_rfl, trivial⟩
theorem mixed : Tryd.prog.follows .mixedOrders = true := by kernel_rfl
end Go.Proofs.YteamlpflgfmieaaDoor
