/- The table of this seat's types, and that it is the program's. -/
import Derived.Test.YtfapcagleghlaaaProg
import Derived.Test.YtfapcagleghlaaaSepH
set_option linter.all false
namespace Go.Proofs.Try
open Go Go.Sep
def TT : List (Nat × TI) := [
  (1, ⟨.func, 1, 8, .nilFunc⟩),
  (2, ⟨.int .i64, 1, 8, (.int .i64 0)⟩),
  (3, ⟨.int .i64, 1, 8, (.int .i64 0)⟩),
  (4, ⟨.bool, 1, 1, (.bool false)⟩),
  (5, ⟨.int .u8, 1, 1, (.int .u8 0)⟩),
  (6, ⟨.int .u8, 1, 1, (.int .u8 0)⟩),
  (7, ⟨.struct [(0, 2), (1, 3), (2, 4), (3, 6)], 4, 24, (.agg #[(.int .i64 0), (.int .i64 0), (.bool false), (.int .u8 0)])⟩),
  (8, ⟨.struct [(0, 2), (1, 3), (2, 4), (3, 6)], 4, 24, (.agg #[(.int .i64 0), (.int .i64 0), (.bool false), (.int .u8 0)])⟩),
  (9, ⟨.str, 1, 16, (.string ByteArray.empty)⟩),
  (10, ⟨.str, 1, 16, (.string ByteArray.empty)⟩),
  (11, ⟨.str, 1, 16, (.string ByteArray.empty)⟩),
  (12, ⟨.int .u64, 1, 8, (.int .u64 0)⟩),
  (13, ⟨.struct [(0, 9), (1, 12)], 2, 24, (.agg #[(.string ByteArray.empty), (.int .u64 0)])⟩),
  (14, ⟨.struct [(0, 9), (1, 12)], 2, 24, (.agg #[(.string ByteArray.empty), (.int .u64 0)])⟩),
  (15, ⟨.ptr 130, 1, 8, (.pointer none)⟩),
  (16, ⟨.ptr 133, 1, 8, (.pointer none)⟩),
  (17, ⟨.ptr 142, 1, 8, (.pointer none)⟩),
  (18, ⟨.struct [(0, 17)], 1, 8, (.agg #[(.pointer none)])⟩),
  (19, ⟨.struct [(0, 17)], 1, 8, (.agg #[(.pointer none)])⟩),
  (20, ⟨.iface, 1, 16, .nilIface⟩),
  (21, ⟨.int .i32, 1, 4, (.int .i32 0)⟩),
  (22, ⟨.slice 58, 1, 24, (.slice none 0 0)⟩),
  (23, ⟨.slice 3, 1, 24, (.slice none 0 0)⟩),
  (24, ⟨.func, 1, 8, .nilFunc⟩),
  (25, ⟨.slice 45, 1, 24, (.slice none 0 0)⟩),
  (26, ⟨.func, 1, 8, .nilFunc⟩),
  (27, ⟨.struct [(0, 2), (1, 2)], 2, 16, (.agg #[(.int .i64 0), (.int .i64 0)])⟩),
  (28, ⟨.struct [(0, 2), (1, 2)], 2, 16, (.agg #[(.int .i64 0), (.int .i64 0)])⟩),
  (29, ⟨.int .i64, 1, 8, (.int .i64 0)⟩),
  (31, ⟨.func, 1, 8, .nilFunc⟩),
  (32, ⟨.ptr 72, 1, 8, (.pointer none)⟩),
  (33, ⟨.func, 1, 8, .nilFunc⟩),
  (34, ⟨.struct [(0, 2), (1, 2), (2, 2), (3, 3), (4, 2)], 5, 40, (.agg #[(.int .i64 0), (.int .i64 0), (.int .i64 0), (.int .i64 0), (.int .i64 0)])⟩),
  (35, ⟨.struct [(0, 2), (1, 2), (2, 2), (3, 3), (4, 2)], 5, 40, (.agg #[(.int .i64 0), (.int .i64 0), (.int .i64 0), (.int .i64 0), (.int .i64 0)])⟩),
  (37, ⟨.func, 1, 8, .nilFunc⟩),
  (38, ⟨.func, 1, 8, .nilFunc⟩),
  (39, ⟨.struct [(0, 3), (1, 2), (2, 2), (3, 2), (4, 2)], 5, 40, (.agg #[(.int .i64 0), (.int .i64 0), (.int .i64 0), (.int .i64 0), (.int .i64 0)])⟩),
  (40, ⟨.struct [(0, 3), (1, 2), (2, 2), (3, 2), (4, 2)], 5, 40, (.agg #[(.int .i64 0), (.int .i64 0), (.int .i64 0), (.int .i64 0), (.int .i64 0)])⟩),
  (42, ⟨.func, 1, 8, .nilFunc⟩),
  (43, ⟨.func, 1, 8, .nilFunc⟩),
  (44, ⟨.func, 1, 8, .nilFunc⟩),
  (45, ⟨.struct [(0, 2), (1, 2)], 2, 16, (.agg #[(.int .i64 0), (.int .i64 0)])⟩),
  (46, ⟨.func, 1, 8, .nilFunc⟩),
  (47, ⟨.func, 1, 8, .nilFunc⟩),
  (48, ⟨.func, 1, 8, .nilFunc⟩),
  (49, ⟨.arr 8 2, 8, 64, (.agg #[(.int .i64 0), (.int .i64 0), (.int .i64 0), (.int .i64 0), (.int .i64 0), (.int .i64 0), (.int .i64 0), (.int .i64 0)])⟩),
  (50, ⟨.slice 40, 1, 24, (.slice none 0 0)⟩),
  (51, ⟨.func, 1, 8, .nilFunc⟩),
  (52, ⟨.ptr 56, 1, 8, (.pointer none)⟩),
  (53, ⟨.func, 1, 8, .nilFunc⟩),
  (54, ⟨.func, 1, 8, .nilFunc⟩),
  (55, ⟨.struct [(0, 25), (1, 2), (2, 2), (3, 49), (11, 2), (12, 2)], 13, 120, (.agg #[(.slice none 0 0), (.int .i64 0), (.int .i64 0), (.int .i64 0), (.int .i64 0), (.int .i64 0), (.int .i64 0), (.int .i64 0), (.int .i64 0), (.int .i64 0), (.int .i64 0), (.int .i64 0), (.int .i64 0)])⟩),
  (56, ⟨.struct [(0, 25), (1, 2), (2, 2), (3, 49), (11, 2), (12, 2)], 13, 120, (.agg #[(.slice none 0 0), (.int .i64 0), (.int .i64 0), (.int .i64 0), (.int .i64 0), (.int .i64 0), (.int .i64 0), (.int .i64 0), (.int .i64 0), (.int .i64 0), (.int .i64 0), (.int .i64 0), (.int .i64 0)])⟩),
  (57, ⟨.func, 1, 8, .nilFunc⟩),
  (58, ⟨.arr 2 3, 2, 16, (.agg #[(.int .i64 0), (.int .i64 0)])⟩),
  (59, ⟨.slice 2, 1, 24, (.slice none 0 0)⟩),
  (61, ⟨.func, 1, 8, .nilFunc⟩),
  (62, ⟨.func, 1, 8, .nilFunc⟩),
  (63, ⟨.slice 108, 1, 24, (.slice none 0 0)⟩),
  (64, ⟨.struct [(0, 63), (1, 63)], 2, 48, (.agg #[(.slice none 0 0), (.slice none 0 0)])⟩),
  (65, ⟨.struct [(0, 63), (1, 63)], 2, 48, (.agg #[(.slice none 0 0), (.slice none 0 0)])⟩),
  (66, ⟨.func, 1, 8, .nilFunc⟩),
  (67, ⟨.func, 1, 8, .nilFunc⟩),
  (68, ⟨.int .u64, 1, 8, (.int .u64 0)⟩),
  (69, ⟨.func, 1, 8, .nilFunc⟩),
  (70, ⟨.slice 74, 1, 24, (.slice none 0 0)⟩),
  (71, ⟨.struct [(0, 70), (1, 2), (2, 2), (3, 2)], 4, 48, (.agg #[(.slice none 0 0), (.int .i64 0), (.int .i64 0), (.int .i64 0)])⟩),
  (72, ⟨.struct [(0, 70), (1, 2), (2, 2), (3, 2)], 4, 48, (.agg #[(.slice none 0 0), (.int .i64 0), (.int .i64 0), (.int .i64 0)])⟩),
  (73, ⟨.struct [(0, 45), (2, 40)], 7, 56, (.agg #[(.int .i64 0), (.int .i64 0), (.int .i64 0), (.int .i64 0), (.int .i64 0), (.int .i64 0), (.int .i64 0)])⟩),
  (74, ⟨.struct [(0, 45), (2, 40)], 7, 56, (.agg #[(.int .i64 0), (.int .i64 0), (.int .i64 0), (.int .i64 0), (.int .i64 0), (.int .i64 0), (.int .i64 0)])⟩),
  (75, ⟨.func, 1, 8, .nilFunc⟩),
  (76, ⟨.func, 1, 8, .nilFunc⟩),
  (77, ⟨.func, 1, 8, .nilFunc⟩),
  (78, ⟨.func, 1, 8, .nilFunc⟩),
  (79, ⟨.ptr 74, 1, 8, (.pointer none)⟩),
  (80, ⟨.func, 1, 8, .nilFunc⟩),
  (81, ⟨.func, 1, 8, .nilFunc⟩),
  (82, ⟨.func, 1, 8, .nilFunc⟩),
  (83, ⟨.func, 1, 8, .nilFunc⟩),
  (84, ⟨.func, 1, 8, .nilFunc⟩),
  (85, ⟨.func, 1, 8, .nilFunc⟩),
  (86, ⟨.func, 1, 8, .nilFunc⟩),
  (87, ⟨.func, 1, 8, .nilFunc⟩),
  (88, ⟨.func, 1, 8, .nilFunc⟩),
  (89, ⟨.func, 1, 8, .nilFunc⟩),
  (90, ⟨.func, 1, 8, .nilFunc⟩),
  (91, ⟨.func, 1, 8, .nilFunc⟩),
  (92, ⟨.func, 1, 8, .nilFunc⟩),
  (93, ⟨.func, 1, 8, .nilFunc⟩),
  (94, ⟨.func, 1, 8, .nilFunc⟩),
  (95, ⟨.func, 1, 8, .nilFunc⟩),
  (96, ⟨.slice 28, 1, 24, (.slice none 0 0)⟩),
  (97, ⟨.func, 1, 8, .nilFunc⟩),
  (98, ⟨.func, 1, 8, .nilFunc⟩),
  (99, ⟨.func, 1, 8, .nilFunc⟩),
  (100, ⟨.func, 1, 8, .nilFunc⟩),
  (101, ⟨.func, 1, 8, .nilFunc⟩),
  (102, ⟨.func, 1, 8, .nilFunc⟩),
  (103, ⟨.func, 1, 8, .nilFunc⟩),
  (104, ⟨.func, 1, 8, .nilFunc⟩),
  (106, ⟨.func, 1, 8, .nilFunc⟩),
  (107, ⟨.func, 1, 8, .nilFunc⟩),
  (108, ⟨.int .u32, 1, 4, (.int .u32 0)⟩),
  (109, ⟨.func, 1, 8, .nilFunc⟩),
  (110, ⟨.func, 1, 8, .nilFunc⟩),
  (111, ⟨.func, 1, 8, .nilFunc⟩),
  (112, ⟨.func, 1, 8, .nilFunc⟩),
  (113, ⟨.func, 1, 8, .nilFunc⟩),
  (114, ⟨.func, 1, 8, .nilFunc⟩),
  (115, ⟨.func, 1, 8, .nilFunc⟩),
  (116, ⟨.int .u64, 1, 8, (.int .u64 0)⟩),
  (117, ⟨.func, 1, 8, .nilFunc⟩),
  (118, ⟨.func, 1, 8, .nilFunc⟩),
  (119, ⟨.func, 1, 8, .nilFunc⟩),
  (120, ⟨.func, 1, 8, .nilFunc⟩),
  (121, ⟨.func, 1, 8, .nilFunc⟩),
  (122, ⟨.func, 1, 8, .nilFunc⟩),
  (124, ⟨.func, 1, 8, .nilFunc⟩),
  (125, ⟨.func, 1, 8, .nilFunc⟩),
  (127, ⟨.func, 1, 8, .nilFunc⟩),
  (128, ⟨.func, 1, 8, .nilFunc⟩),
  (129, ⟨.struct [(0, 17), (1, 17), (2, 17), (3, 9)], 4, 40, (.agg #[(.pointer none), (.pointer none), (.pointer none), (.string ByteArray.empty)])⟩),
  (130, ⟨.struct [(0, 17), (1, 17), (2, 17), (3, 9)], 4, 40, (.agg #[(.pointer none), (.pointer none), (.pointer none), (.string ByteArray.empty)])⟩),
  (131, ⟨.arr 0 16, 0, 0, (.agg #[])⟩),
  (132, ⟨.struct [(0, 131)], 0, 0, (.agg #[])⟩),
  (133, ⟨.struct [(0, 131)], 0, 0, (.agg #[])⟩),
  (134, ⟨.func, 1, 8, .nilFunc⟩),
  (135, ⟨.int .u8, 1, 1, (.int .u8 0)⟩),
  (136, ⟨.int .u8, 1, 1, (.int .u8 0)⟩),
  (137, ⟨.func, 1, 8, .nilFunc⟩),
  (138, ⟨.ptr 5, 1, 8, (.pointer none)⟩),
  (139, ⟨.int .i32, 1, 4, (.int .i32 0)⟩),
  (140, ⟨.int .i32, 1, 4, (.int .i32 0)⟩),
  (141, ⟨.struct [(0, 12), (1, 12), (2, 108), (3, 135), (4, 5), (5, 5), (6, 136), (7, 137), (8, 138), (9, 139), (10, 140)], 11, 48, (.agg #[(.int .u64 0), (.int .u64 0), (.int .u32 0), (.int .u8 0), (.int .u8 0), (.int .u8 0), (.int .u8 0), .nilFunc, (.pointer none), (.int .i32 0), (.int .i32 0)])⟩),
  (142, ⟨.struct [(0, 12), (1, 12), (2, 108), (3, 135), (4, 5), (5, 5), (6, 136), (7, 137), (8, 138), (9, 139), (10, 140)], 11, 48, (.agg #[(.int .u64 0), (.int .u64 0), (.int .u32 0), (.int .u8 0), (.int .u8 0), (.int .u8 0), (.int .u8 0), .nilFunc, (.pointer none), (.int .i32 0), (.int .i32 0)])⟩)]
theorem tab : Tab Try.prog TT := Tab.mk (by kernel_rfl)
theorem isF3 : IsFun Try.prog 3 := ⟨Try.f3, Try.func3, rfl, by kernel_rfl⟩
theorem isF4 : IsFun Try.prog 4 := ⟨Try.f4, Try.func4, rfl, by kernel_rfl⟩
theorem isF5 : IsFun Try.prog 5 := ⟨Try.f5, Try.func5, rfl, by kernel_rfl⟩
theorem isF6 : IsFun Try.prog 6 := ⟨Try.f6, Try.func6, rfl, by kernel_rfl⟩
theorem isF7 : IsFun Try.prog 7 := ⟨Try.f7, Try.func7, rfl, by kernel_rfl⟩
theorem isF8 : IsFun Try.prog 8 := ⟨Try.f8, Try.func8, rfl, by kernel_rfl⟩
theorem isF9 : IsFun Try.prog 9 := ⟨Try.f9, Try.func9, rfl, by kernel_rfl⟩
theorem isF10 : IsFun Try.prog 10 := ⟨Try.f10, Try.func10, rfl, by kernel_rfl⟩
theorem isF11 : IsFun Try.prog 11 := ⟨Try.f11, Try.func11, rfl, by kernel_rfl⟩
theorem isF12 : IsFun Try.prog 12 := ⟨Try.f12, Try.func12, rfl, by kernel_rfl⟩
theorem isF13 : IsFun Try.prog 13 := ⟨Try.f13, Try.func13, rfl, by kernel_rfl⟩
theorem isF14 : IsFun Try.prog 14 := ⟨Try.f14, Try.func14, rfl, by kernel_rfl⟩
theorem isF15 : IsFun Try.prog 15 := ⟨Try.f15, Try.func15, rfl, by kernel_rfl⟩
theorem isF16 : IsFun Try.prog 16 := ⟨Try.f16, Try.func16, rfl, by kernel_rfl⟩
theorem isF17 : IsFun Try.prog 17 := ⟨Try.f17, Try.func17, rfl, by kernel_rfl⟩
theorem isF18 : IsFun Try.prog 18 := ⟨Try.f18, Try.func18, rfl, by kernel_rfl⟩
theorem isF19 : IsFun Try.prog 19 := ⟨Try.f19, Try.func19, rfl, by kernel_rfl⟩
theorem isF20 : IsFun Try.prog 20 := ⟨Try.f20, Try.func20, rfl, by kernel_rfl⟩
theorem isF21 : IsFun Try.prog 21 := ⟨Try.f21, Try.func21, rfl, by kernel_rfl⟩
theorem isF22 : IsFun Try.prog 22 := ⟨Try.f22, Try.func22, rfl, by kernel_rfl⟩
theorem isF23 : IsFun Try.prog 23 := ⟨Try.f23, Try.func23, rfl, by kernel_rfl⟩
theorem isF24 : IsFun Try.prog 24 := ⟨Try.f24, Try.func24, rfl, by kernel_rfl⟩
theorem isF25 : IsFun Try.prog 25 := ⟨Try.f25, Try.func25, rfl, by kernel_rfl⟩
theorem isF26 : IsFun Try.prog 26 := ⟨Try.f26, Try.func26, rfl, by kernel_rfl⟩
theorem isF27 : IsFun Try.prog 27 := ⟨Try.f27, Try.func27, rfl, by kernel_rfl⟩
theorem isF28 : IsFun Try.prog 28 := ⟨Try.f28, Try.func28, rfl, by kernel_rfl⟩
theorem isF29 : IsFun Try.prog 29 := ⟨Try.f29, Try.func29, rfl, by kernel_rfl⟩
theorem isF30 : IsFun Try.prog 30 := ⟨Try.f30, Try.func30, rfl, by kernel_rfl⟩
theorem isF31 : IsFun Try.prog 31 := ⟨Try.f31, Try.func31, rfl, by kernel_rfl⟩
theorem isF32 : IsFun Try.prog 32 := ⟨Try.f32, Try.func32, rfl, by kernel_rfl⟩
theorem isF33 : IsFun Try.prog 33 := ⟨Try.f33, Try.func33, rfl, by kernel_rfl⟩
theorem isF34 : IsFun Try.prog 34 := ⟨Try.f34, Try.func34, rfl, by kernel_rfl⟩
theorem isF35 : IsFun Try.prog 35 := ⟨Try.f35, Try.func35, rfl, by kernel_rfl⟩
theorem isF36 : IsFun Try.prog 36 := ⟨Try.f36, Try.func36, rfl, by kernel_rfl⟩
theorem isF37 : IsFun Try.prog 37 := ⟨Try.f37, Try.func37, rfl, by kernel_rfl⟩
theorem isF38 : IsFun Try.prog 38 := ⟨Try.f38, Try.func38, rfl, by kernel_rfl⟩
theorem isF39 : IsFun Try.prog 39 := ⟨Try.f39, Try.func39, rfl, by kernel_rfl⟩
theorem isF40 : IsFun Try.prog 40 := ⟨Try.f40, Try.func40, rfl, by kernel_rfl⟩
theorem isF41 : IsFun Try.prog 41 := ⟨Try.f41, Try.func41, rfl, by kernel_rfl⟩
theorem isF42 : IsFun Try.prog 42 := ⟨Try.f42, Try.func42, rfl, by kernel_rfl⟩
theorem isF43 : IsFun Try.prog 43 := ⟨Try.f43, Try.func43, rfl, by kernel_rfl⟩
theorem isF44 : IsFun Try.prog 44 := ⟨Try.f44, Try.func44, rfl, by kernel_rfl⟩
theorem isF45 : IsFun Try.prog 45 := ⟨Try.f45, Try.func45, rfl, by kernel_rfl⟩
theorem isF46 : IsFun Try.prog 46 := ⟨Try.f46, Try.func46, rfl, by kernel_rfl⟩
theorem isF47 : IsFun Try.prog 47 := ⟨Try.f47, Try.func47, rfl, by kernel_rfl⟩
theorem isF48 : IsFun Try.prog 48 := ⟨Try.f48, Try.func48, rfl, by kernel_rfl⟩
theorem isF49 : IsFun Try.prog 49 := ⟨Try.f49, Try.func49, rfl, by kernel_rfl⟩
theorem isF50 : IsFun Try.prog 50 := ⟨Try.f50, Try.func50, rfl, by kernel_rfl⟩
theorem isF51 : IsFun Try.prog 51 := ⟨Try.f51, Try.func51, rfl, by kernel_rfl⟩
theorem isF52 : IsFun Try.prog 52 := ⟨Try.f52, Try.func52, rfl, by kernel_rfl⟩
theorem isF53 : IsFun Try.prog 53 := ⟨Try.f53, Try.func53, rfl, by kernel_rfl⟩
theorem isF54 : IsFun Try.prog 54 := ⟨Try.f54, Try.func54, rfl, by kernel_rfl⟩
theorem isF55 : IsFun Try.prog 55 := ⟨Try.f55, Try.func55, rfl, by kernel_rfl⟩
theorem isF56 : IsFun Try.prog 56 := ⟨Try.f56, Try.func56, rfl, by kernel_rfl⟩
theorem isF57 : IsFun Try.prog 57 := ⟨Try.f57, Try.func57, rfl, by kernel_rfl⟩
theorem isF58 : IsFun Try.prog 58 := ⟨Try.f58, Try.func58, rfl, by kernel_rfl⟩
theorem isF59 : IsFun Try.prog 59 := ⟨Try.f59, Try.func59, rfl, by kernel_rfl⟩
theorem isF60 : IsFun Try.prog 60 := ⟨Try.f60, Try.func60, rfl, by kernel_rfl⟩
theorem isF61 : IsFun Try.prog 61 := ⟨Try.f61, Try.func61, rfl, by kernel_rfl⟩
theorem isF62 : IsFun Try.prog 62 := ⟨Try.f62, Try.func62, rfl, by kernel_rfl⟩
theorem isF63 : IsFun Try.prog 63 := ⟨Try.f63, Try.func63, rfl, by kernel_rfl⟩
theorem isF64 : IsFun Try.prog 64 := ⟨Try.f64, Try.func64, rfl, by kernel_rfl⟩
theorem isF65 : IsFun Try.prog 65 := ⟨Try.f65, Try.func65, rfl, by kernel_rfl⟩
theorem isF66 : IsFun Try.prog 66 := ⟨Try.f66, Try.func66, rfl, by kernel_rfl⟩
theorem isF67 : IsFun Try.prog 67 := ⟨Try.f67, Try.func67, rfl, by kernel_rfl⟩
theorem isF68 : IsFun Try.prog 68 := ⟨Try.f68, Try.func68, rfl, by kernel_rfl⟩
theorem isF69 : IsFun Try.prog 69 := ⟨Try.f69, Try.func69, rfl, by kernel_rfl⟩
theorem isF70 : IsFun Try.prog 70 := ⟨Try.f70, Try.func70, rfl, by kernel_rfl⟩
theorem isF71 : IsFun Try.prog 71 := ⟨Try.f71, Try.func71, rfl, by kernel_rfl⟩
theorem isF72 : IsFun Try.prog 72 := ⟨Try.f72, Try.func72, rfl, by kernel_rfl⟩
theorem isF73 : IsFun Try.prog 73 := ⟨Try.f73, Try.func73, rfl, by kernel_rfl⟩
theorem isF74 : IsFun Try.prog 74 := ⟨Try.f74, Try.func74, rfl, by kernel_rfl⟩
theorem isF75 : IsFun Try.prog 75 := ⟨Try.f75, Try.func75, rfl, by kernel_rfl⟩
theorem isF76 : IsFun Try.prog 76 := ⟨Try.f76, Try.func76, rfl, by kernel_rfl⟩
theorem isF77 : IsFun Try.prog 77 := ⟨Try.f77, Try.func77, rfl, by kernel_rfl⟩
theorem isF78 : IsFun Try.prog 78 := ⟨Try.f78, Try.func78, rfl, by kernel_rfl⟩
theorem isF79 : IsFun Try.prog 79 := ⟨Try.f79, Try.func79, rfl, by kernel_rfl⟩
theorem isF80 : IsFun Try.prog 80 := ⟨Try.f80, Try.func80, rfl, by kernel_rfl⟩
theorem isF81 : IsFun Try.prog 81 := ⟨Try.f81, Try.func81, rfl, by kernel_rfl⟩
theorem isF82 : IsFun Try.prog 82 := ⟨Try.f82, Try.func82, rfl, by kernel_rfl⟩
theorem isF83 : IsFun Try.prog 83 := ⟨Try.f83, Try.func83, rfl, by kernel_rfl⟩
theorem isF84 : IsFun Try.prog 84 := ⟨Try.f84, Try.func84, rfl, by kernel_rfl⟩
theorem isF85 : IsFun Try.prog 85 := ⟨Try.f85, Try.func85, rfl, by kernel_rfl⟩
theorem isF86 : IsFun Try.prog 86 := ⟨Try.f86, Try.func86, rfl, by kernel_rfl⟩
theorem isF87 : IsFun Try.prog 87 := ⟨Try.f87, Try.func87, rfl, by kernel_rfl⟩
theorem isF88 : IsFun Try.prog 88 := ⟨Try.f88, Try.func88, rfl, by kernel_rfl⟩
theorem isF89 : IsFun Try.prog 89 := ⟨Try.f89, Try.func89, rfl, by kernel_rfl⟩
theorem isF90 : IsFun Try.prog 90 := ⟨Try.f90, Try.func90, rfl, by kernel_rfl⟩
theorem isF91 : IsFun Try.prog 91 := ⟨Try.f91, Try.func91, rfl, by kernel_rfl⟩
theorem isF92 : IsFun Try.prog 92 := ⟨Try.f92, Try.func92, rfl, by kernel_rfl⟩
end Go.Proofs.Try
