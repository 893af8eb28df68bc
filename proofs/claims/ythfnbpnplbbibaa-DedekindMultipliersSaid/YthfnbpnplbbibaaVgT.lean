/- States in letters: the types' table of this seat. -/
import Derived.Test.YthfnbpnplbbibaaRows
import Derived.Test.YthfnbpnplbbibaaPkVgZ
import Derived.ProofKit
namespace Go.Proofs.Ythfnbpnplbbibaa
open Go Go.RowKit Go.VG
def tysX : List (TypeId × TyD) := [
  (2, ⟨.int .i64, 1, 8, [.int .i64 (0)]⟩),
  (3, ⟨.int .i64, 1, 8, [.int .i64 (0)]⟩),
  (4, ⟨.bool, 1, 1, [.bool false]⟩),
  (5, ⟨.int .u8, 1, 1, [.int .u8 (0)]⟩),
  (6, ⟨.int .u8, 1, 1, [.int .u8 (0)]⟩),
  (7, ⟨.struct [(0, 2), (1, 3), (2, 4), (3, 6)], 4, 24, [.int .i64 (0), .int .i64 (0), .bool false, .int .u8 (0)]⟩),
  (8, ⟨.struct [(0, 2), (1, 3), (2, 4), (3, 6)], 4, 24, [.int .i64 (0), .int .i64 (0), .bool false, .int .u8 (0)]⟩),
  (12, ⟨.int .u64, 1, 8, [.int .u64 (0)]⟩),
  (13, ⟨.struct [(0, 9), (1, 12)], 2, 24, [.string { data := #[] }, .int .u64 (0)]⟩),
  (14, ⟨.struct [(0, 9), (1, 12)], 2, 24, [.string { data := #[] }, .int .u64 (0)]⟩),
  (15, ⟨.ptr 139, 1, 8, [.pointer none]⟩),
  (16, ⟨.ptr 142, 1, 8, [.pointer none]⟩),
  (17, ⟨.ptr 151, 1, 8, [.pointer none]⟩),
  (18, ⟨.struct [(0, 17)], 1, 8, [.pointer none]⟩),
  (19, ⟨.struct [(0, 17)], 1, 8, [.pointer none]⟩),
  (21, ⟨.int .i32, 1, 4, [.int .i32 (0)]⟩),
  (23, ⟨.slice 85, 1, 24, [.slice none 0 0]⟩),
  (24, ⟨.struct [(0, 4), (1, 23)], 2, 32, [.bool false, .slice none 0 0]⟩),
  (25, ⟨.struct [(0, 4), (1, 23)], 2, 32, [.bool false, .slice none 0 0]⟩),
  (26, ⟨.struct [(0, 25), (2, 25)], 4, 64, [.bool false, .slice none 0 0, .bool false, .slice none 0 0]⟩),
  (27, ⟨.struct [(0, 25), (2, 25)], 4, 64, [.bool false, .slice none 0 0, .bool false, .slice none 0 0]⟩),
  (28, ⟨.int .i64, 1, 8, [.int .i64 (0)]⟩),
  (36, ⟨.int .i16, 1, 2, [.int .i16 (0)]⟩),
  (50, ⟨.struct [(0, 3), (1, 3), (2, 3), (3, 3)], 4, 32, [.int .i64 (0), .int .i64 (0), .int .i64 (0), .int .i64 (0)]⟩),
  (51, ⟨.struct [(0, 3), (1, 3), (2, 3), (3, 3)], 4, 32, [.int .i64 (0), .int .i64 (0), .int .i64 (0), .int .i64 (0)]⟩),
  (59, ⟨.slice 3, 1, 24, [.slice none 0 0]⟩),
  (67, ⟨.arr 2 51, 8, 64, [.int .i64 (0), .int .i64 (0), .int .i64 (0), .int .i64 (0), .int .i64 (0), .int .i64 (0), .int .i64 (0), .int .i64 (0)]⟩),
  (82, ⟨.int .u64, 1, 8, [.int .u64 (0)]⟩),
  (85, ⟨.int .u32, 1, 4, [.int .u32 (0)]⟩),
  (94, ⟨.struct [(0, 4), (1, 59)], 2, 32, [.bool false, .slice none 0 0]⟩),
  (95, ⟨.struct [(0, 4), (1, 59)], 2, 32, [.bool false, .slice none 0 0]⟩),
  (98, ⟨.int .u64, 1, 8, [.int .u64 (0)]⟩),
  (120, ⟨.int .i64, 1, 8, [.int .i64 (0)]⟩),
  (128, ⟨.int .u64, 1, 8, [.int .u64 (0)]⟩),
  (132, ⟨.ptr 3, 1, 8, [.pointer none]⟩),
  (134, ⟨.ptr 128, 1, 8, [.pointer none]⟩),
  (136, ⟨.ptr 153, 1, 8, [.pointer none]⟩),
  (138, ⟨.struct [(0, 17), (1, 17), (2, 17), (3, 9)], 4, 40, [.pointer none, .pointer none, .pointer none, .string { data := #[] }]⟩),
  (139, ⟨.struct [(0, 17), (1, 17), (2, 17), (3, 9)], 4, 40, [.pointer none, .pointer none, .pointer none, .string { data := #[] }]⟩)]
theorem tysX_ok : TysOk Try.prog tysX := by
  refine ⟨by kernel_rfl, by kernel_rfl, by kernel_rfl, by kernel_rfl, by kernel_rfl, by kernel_rfl, by kernel_rfl, by kernel_rfl, by kernel_rfl, by kernel_rfl, by kernel_rfl, by kernel_rfl, by kernel_rfl, by kernel_rfl, by kernel_rfl, by kernel_rfl, by kernel_rfl, by kernel_rfl, by kernel_rfl, by kernel_rfl, by kernel_rfl, by kernel_rfl, by kernel_rfl, by kernel_rfl, by kernel_rfl, by kernel_rfl, by kernel_rfl, by kernel_rfl, by kernel_rfl, by kernel_rfl, by kernel_rfl, by kernel_rfl, by kernel_rfl, by kernel_rfl, by kernel_rfl, by kernel_rfl, by kernel_rfl, by kernel_rfl, by kernel_rfl, trivial⟩
theorem mixed : Try.prog.follows .mixedOrders = true := by kernel_rfl
end Go.Proofs.Ythfnbpnplbbibaa
