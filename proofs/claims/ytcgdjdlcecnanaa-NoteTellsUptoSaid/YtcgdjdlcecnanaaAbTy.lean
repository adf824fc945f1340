/-
  The table of types of the program for the evaluator. That it is right. (Written by a program of ours.)
  No condition.
-/
import Derived.Test.YtcgdjdlcecnanaaChecked
import Derived.Test.YtcgdjdlcecnanaaAbU
namespace Go.Proofs.Ytcgdjdlcecnanaa.Ab
open Go
def tyTab : List (Nat × TI) := [
  (1, ⟨.ref, 1, 8, [.junk]⟩),
  (2, ⟨.int .i64, 1, 8, [.int .i64 0]⟩),
  (3, ⟨.int .i64, 1, 8, [.int .i64 0]⟩),
  (4, ⟨.bool, 1, 1, [.bool false]⟩),
  (5, ⟨.int .u8, 1, 1, [.int .u8 0]⟩),
  (6, ⟨.int .u8, 1, 1, [.int .u8 0]⟩),
  (7, ⟨.struct [(0, 2), (1, 3), (2, 4), (3, 6)], 4, 24, [.int .i64 0, .int .i64 0, .bool false, .int .u8 0]⟩),
  (8, ⟨.struct [(0, 2), (1, 3), (2, 4), (3, 6)], 4, 24, [.int .i64 0, .int .i64 0, .bool false, .int .u8 0]⟩),
  (9, ⟨.str, 1, 16, [.str []]⟩),
  (10, ⟨.str, 1, 16, [.str []]⟩),
  (11, ⟨.str, 1, 16, [.str []]⟩),
  (12, ⟨.int .u64, 1, 8, [.int .u64 0]⟩),
  (13, ⟨.struct [(0, 9), (1, 12)], 2, 24, [.str [], .int .u64 0]⟩),
  (14, ⟨.struct [(0, 9), (1, 12)], 2, 24, [.str [], .int .u64 0]⟩),
  (15, ⟨.ref, 1, 8, [.junk]⟩),
  (16, ⟨.ref, 1, 8, [.junk]⟩),
  (17, ⟨.ref, 1, 8, [.junk]⟩),
  (18, ⟨.struct [(0, 17)], 1, 8, [.junk]⟩),
  (19, ⟨.struct [(0, 17)], 1, 8, [.junk]⟩),
  (21, ⟨.int .i32, 1, 4, [.int .i32 0]⟩),
  (22, ⟨.slice 5, 1, 24, [.nils]⟩),
  (23, ⟨.struct [(0, 22), (1, 3)], 2, 32, [.nils, .int .i64 0]⟩),
  (24, ⟨.struct [(0, 22), (1, 3)], 2, 32, [.nils, .int .i64 0]⟩),
  (25, ⟨.slice 22, 1, 24, [.nils]⟩),
  (26, ⟨.ref, 1, 8, [.junk]⟩),
  (27, ⟨.ref, 1, 8, [.junk]⟩),
  (28, ⟨.ref, 1, 8, [.junk]⟩),
  (29, ⟨.ref, 1, 8, [.junk]⟩),
  (30, ⟨.int .i64, 1, 8, [.int .i64 0]⟩),
  (32, ⟨.ref, 1, 8, [.junk]⟩),
  (33, ⟨.ref, 1, 8, [.junk]⟩),
  (35, ⟨.ref, 1, 8, [.junk]⟩),
  (36, ⟨.ref, 1, 8, [.junk]⟩),
  (37, ⟨.ref, 1, 8, [.junk]⟩),
  (38, ⟨.ref, 1, 8, [.junk]⟩),
  (39, ⟨.ref, 1, 8, [.junk]⟩),
  (40, ⟨.slice 99, 1, 24, [.nils]⟩),
  (41, ⟨.struct [(0, 40), (1, 22)], 2, 48, [.nils, .nils]⟩),
  (42, ⟨.struct [(0, 40), (1, 22)], 2, 48, [.nils, .nils]⟩),
  (43, ⟨.ref, 1, 8, [.junk]⟩),
  (44, ⟨.ref, 1, 8, [.junk]⟩),
  (45, ⟨.ref, 1, 8, [.junk]⟩),
  (46, ⟨.ref, 1, 8, [.junk]⟩),
  (47, ⟨.ref, 1, 8, [.junk]⟩),
  (49, ⟨.ref, 1, 8, [.junk]⟩),
  (50, ⟨.ref, 1, 8, [.junk]⟩),
  (51, ⟨.ref, 1, 8, [.junk]⟩),
  (52, ⟨.slice 64, 1, 24, [.nils]⟩),
  (53, ⟨.struct [(0, 9), (1, 3), (2, 52)], 3, 48, [.str [], .int .i64 0, .nils]⟩),
  (54, ⟨.struct [(0, 9), (1, 3), (2, 52)], 3, 48, [.str [], .int .i64 0, .nils]⟩),
  (55, ⟨.ref, 1, 8, [.junk]⟩),
  (56, ⟨.slice 54, 1, 24, [.nils]⟩),
  (57, ⟨.struct [(0, 56), (1, 3)], 2, 32, [.nils, .int .i64 0]⟩),
  (58, ⟨.struct [(0, 56), (1, 3)], 2, 32, [.nils, .int .i64 0]⟩),
  (60, ⟨.ref, 1, 8, [.junk]⟩),
  (61, ⟨.ref, 1, 8, [.junk]⟩),
  (62, ⟨.ref, 1, 8, [.junk]⟩),
  (63, ⟨.struct [(0, 3), (1, 3), (2, 3), (3, 4), (4, 3), (5, 42)], 7, 88, [.int .i64 0, .int .i64 0, .int .i64 0, .bool false, .int .i64 0, .nils, .nils]⟩),
  (64, ⟨.struct [(0, 3), (1, 3), (2, 3), (3, 4), (4, 3), (5, 42)], 7, 88, [.int .i64 0, .int .i64 0, .int .i64 0, .bool false, .int .i64 0, .nils, .nils]⟩),
  (66, ⟨.ref, 1, 8, [.junk]⟩),
  (67, ⟨.ref, 1, 8, [.junk]⟩),
  (68, ⟨.ref, 1, 8, [.junk]⟩),
  (70, ⟨.ref, 1, 8, [.junk]⟩),
  (72, ⟨.ref, 1, 8, [.junk]⟩),
  (73, ⟨.slice 3, 1, 24, [.nils]⟩),
  (75, ⟨.ref, 1, 8, [.junk]⟩),
  (76, ⟨.ref, 1, 8, [.junk]⟩),
  (77, ⟨.ref, 1, 8, [.junk]⟩),
  (78, ⟨.ref, 1, 8, [.junk]⟩),
  (79, ⟨.struct [(0, 3), (1, 9), (2, 3), (3, 42)], 5, 80, [.int .i64 0, .str [], .int .i64 0, .nils, .nils]⟩),
  (80, ⟨.struct [(0, 3), (1, 9), (2, 3), (3, 42)], 5, 80, [.int .i64 0, .str [], .int .i64 0, .nils, .nils]⟩),
  (81, ⟨.struct [(0, 3), (1, 3), (2, 3), (3, 30), (4, 42)], 6, 80, [.int .i64 0, .int .i64 0, .int .i64 0, .int .i64 0, .nils, .nils]⟩),
  (82, ⟨.struct [(0, 3), (1, 3), (2, 3), (3, 30), (4, 42)], 6, 80, [.int .i64 0, .int .i64 0, .int .i64 0, .int .i64 0, .nils, .nils]⟩),
  (83, ⟨.ref, 1, 8, [.junk]⟩),
  (84, ⟨.ref, 1, 8, [.junk]⟩),
  (85, ⟨.ref, 1, 8, [.junk]⟩),
  (86, ⟨.ref, 1, 8, [.junk]⟩),
  (88, ⟨.ref, 1, 8, [.junk]⟩),
  (89, ⟨.ref, 1, 8, [.junk]⟩),
  (91, ⟨.ref, 1, 8, [.junk]⟩),
  (92, ⟨.ref, 1, 8, [.junk]⟩),
  (93, ⟨.ref, 1, 8, [.junk]⟩),
  (94, ⟨.ref, 1, 8, [.junk]⟩),
  (95, ⟨.slice 30, 1, 24, [.nils]⟩),
  (96, ⟨.ref, 1, 8, [.junk]⟩),
  (97, ⟨.int .u64, 1, 8, [.int .u64 0]⟩),
  (98, ⟨.struct [(0, 9), (1, 3), (2, 3), (3, 9)], 4, 48, [.str [], .int .i64 0, .int .i64 0, .str []]⟩),
  (99, ⟨.struct [(0, 9), (1, 3), (2, 3), (3, 9)], 4, 48, [.str [], .int .i64 0, .int .i64 0, .str []]⟩),
  (100, ⟨.ref, 1, 8, [.junk]⟩),
  (103, ⟨.ref, 1, 8, [.junk]⟩),
  (104, ⟨.ref, 1, 8, [.junk]⟩),
  (105, ⟨.ref, 1, 8, [.junk]⟩),
  (106, ⟨.ref, 1, 8, [.junk]⟩),
  (107, ⟨.ref, 1, 8, [.junk]⟩),
  (108, ⟨.ref, 1, 8, [.junk]⟩),
  (109, ⟨.ref, 1, 8, [.junk]⟩),
  (110, ⟨.struct [(0, 22), (1, 4)], 2, 32, [.nils, .bool false]⟩),
  (111, ⟨.struct [(0, 22), (1, 4)], 2, 32, [.nils, .bool false]⟩),
  (112, ⟨.ref, 1, 8, [.junk]⟩),
  (113, ⟨.int .u32, 1, 4, [.int .u32 0]⟩),
  (114, ⟨.ref, 1, 8, [.junk]⟩),
  (115, ⟨.ref, 1, 8, [.junk]⟩),
  (116, ⟨.ref, 1, 8, [.junk]⟩),
  (117, ⟨.ref, 1, 8, [.junk]⟩),
  (118, ⟨.ref, 1, 8, [.junk]⟩),
  (119, ⟨.ref, 1, 8, [.junk]⟩),
  (120, ⟨.ref, 1, 8, [.junk]⟩),
  (121, ⟨.ref, 1, 8, [.junk]⟩),
  (122, ⟨.ref, 1, 8, [.junk]⟩),
  (123, ⟨.ref, 1, 8, [.junk]⟩),
  (126, ⟨.ref, 1, 8, [.junk]⟩),
  (128, ⟨.ref, 1, 8, [.junk]⟩),
  (130, ⟨.ref, 1, 8, [.junk]⟩),
  (131, ⟨.ref, 1, 8, [.junk]⟩),
  (132, ⟨.struct [(0, 17), (1, 17), (2, 17), (3, 9)], 4, 40, [.junk, .junk, .junk, .str []]⟩),
  (133, ⟨.struct [(0, 17), (1, 17), (2, 17), (3, 9)], 4, 40, [.junk, .junk, .junk, .str []]⟩),
  (137, ⟨.ref, 1, 8, [.junk]⟩),
  (138, ⟨.int .u8, 1, 1, [.int .u8 0]⟩),
  (139, ⟨.int .u8, 1, 1, [.int .u8 0]⟩),
  (140, ⟨.ref, 1, 8, [.junk]⟩),
  (141, ⟨.ref, 1, 8, [.junk]⟩),
  (142, ⟨.int .i32, 1, 4, [.int .i32 0]⟩),
  (143, ⟨.int .i32, 1, 4, [.int .i32 0]⟩),
  (144, ⟨.struct [(0, 12), (1, 12), (2, 113), (3, 138), (4, 5), (5, 5), (6, 139), (7, 140), (8, 141), (9, 142), (10, 143)], 11, 48, [.int .u64 0, .int .u64 0, .int .u32 0, .int .u8 0, .int .u8 0, .int .u8 0, .int .u8 0, .junk, .junk, .int .i32 0, .int .i32 0]⟩),
  (145, ⟨.struct [(0, 12), (1, 12), (2, 113), (3, 138), (4, 5), (5, 5), (6, 139), (7, 140), (8, 141), (9, 142), (10, 143)], 11, 48, [.int .u64 0, .int .u64 0, .int .u32 0, .int .u8 0, .int .u8 0, .int .u8 0, .int .u8 0, .junk, .junk, .int .i32 0, .int .i32 0]⟩)]
def D (T : Nat) : TI := (get T tyTab).getD ⟨.other, 0, 0, []⟩
theorem D_1 : D 1 = ⟨.ref, 1, 8, [.junk]⟩ := rfl
theorem D_2 : D 2 = ⟨.int .i64, 1, 8, [.int .i64 0]⟩ := rfl
theorem D_3 : D 3 = ⟨.int .i64, 1, 8, [.int .i64 0]⟩ := rfl
theorem D_4 : D 4 = ⟨.bool, 1, 1, [.bool false]⟩ := rfl
theorem D_5 : D 5 = ⟨.int .u8, 1, 1, [.int .u8 0]⟩ := rfl
theorem D_6 : D 6 = ⟨.int .u8, 1, 1, [.int .u8 0]⟩ := rfl
theorem D_7 : D 7 = ⟨.struct [(0, 2), (1, 3), (2, 4), (3, 6)], 4, 24, [.int .i64 0, .int .i64 0, .bool false, .int .u8 0]⟩ := rfl
theorem D_8 : D 8 = ⟨.struct [(0, 2), (1, 3), (2, 4), (3, 6)], 4, 24, [.int .i64 0, .int .i64 0, .bool false, .int .u8 0]⟩ := rfl
theorem D_9 : D 9 = ⟨.str, 1, 16, [.str []]⟩ := rfl
theorem D_10 : D 10 = ⟨.str, 1, 16, [.str []]⟩ := rfl
theorem D_11 : D 11 = ⟨.str, 1, 16, [.str []]⟩ := rfl
theorem D_12 : D 12 = ⟨.int .u64, 1, 8, [.int .u64 0]⟩ := rfl
theorem D_13 : D 13 = ⟨.struct [(0, 9), (1, 12)], 2, 24, [.str [], .int .u64 0]⟩ := rfl
theorem D_14 : D 14 = ⟨.struct [(0, 9), (1, 12)], 2, 24, [.str [], .int .u64 0]⟩ := rfl
theorem D_15 : D 15 = ⟨.ref, 1, 8, [.junk]⟩ := rfl
theorem D_16 : D 16 = ⟨.ref, 1, 8, [.junk]⟩ := rfl
theorem D_17 : D 17 = ⟨.ref, 1, 8, [.junk]⟩ := rfl
theorem D_18 : D 18 = ⟨.struct [(0, 17)], 1, 8, [.junk]⟩ := rfl
theorem D_19 : D 19 = ⟨.struct [(0, 17)], 1, 8, [.junk]⟩ := rfl
theorem D_21 : D 21 = ⟨.int .i32, 1, 4, [.int .i32 0]⟩ := rfl
theorem D_22 : D 22 = ⟨.slice 5, 1, 24, [.nils]⟩ := rfl
theorem D_23 : D 23 = ⟨.struct [(0, 22), (1, 3)], 2, 32, [.nils, .int .i64 0]⟩ := rfl
theorem D_24 : D 24 = ⟨.struct [(0, 22), (1, 3)], 2, 32, [.nils, .int .i64 0]⟩ := rfl
theorem D_25 : D 25 = ⟨.slice 22, 1, 24, [.nils]⟩ := rfl
theorem D_26 : D 26 = ⟨.ref, 1, 8, [.junk]⟩ := rfl
theorem D_27 : D 27 = ⟨.ref, 1, 8, [.junk]⟩ := rfl
theorem D_28 : D 28 = ⟨.ref, 1, 8, [.junk]⟩ := rfl
theorem D_29 : D 29 = ⟨.ref, 1, 8, [.junk]⟩ := rfl
theorem D_30 : D 30 = ⟨.int .i64, 1, 8, [.int .i64 0]⟩ := rfl
theorem D_32 : D 32 = ⟨.ref, 1, 8, [.junk]⟩ := rfl
theorem D_33 : D 33 = ⟨.ref, 1, 8, [.junk]⟩ := rfl
theorem D_35 : D 35 = ⟨.ref, 1, 8, [.junk]⟩ := rfl
theorem D_36 : D 36 = ⟨.ref, 1, 8, [.junk]⟩ := rfl
theorem D_37 : D 37 = ⟨.ref, 1, 8, [.junk]⟩ := rfl
theorem D_38 : D 38 = ⟨.ref, 1, 8, [.junk]⟩ := rfl
theorem D_39 : D 39 = ⟨.ref, 1, 8, [.junk]⟩ := rfl
theorem D_40 : D 40 = ⟨.slice 99, 1, 24, [.nils]⟩ := rfl
theorem D_41 : D 41 = ⟨.struct [(0, 40), (1, 22)], 2, 48, [.nils, .nils]⟩ := rfl
theorem D_42 : D 42 = ⟨.struct [(0, 40), (1, 22)], 2, 48, [.nils, .nils]⟩ := rfl
theorem D_43 : D 43 = ⟨.ref, 1, 8, [.junk]⟩ := rfl
theorem D_44 : D 44 = ⟨.ref, 1, 8, [.junk]⟩ := rfl
theorem D_45 : D 45 = ⟨.ref, 1, 8, [.junk]⟩ := rfl
theorem D_46 : D 46 = ⟨.ref, 1, 8, [.junk]⟩ := rfl
theorem D_47 : D 47 = ⟨.ref, 1, 8, [.junk]⟩ := rfl
theorem D_49 : D 49 = ⟨.ref, 1, 8, [.junk]⟩ := rfl
theorem D_50 : D 50 = ⟨.ref, 1, 8, [.junk]⟩ := rfl
theorem D_51 : D 51 = ⟨.ref, 1, 8, [.junk]⟩ := rfl
theorem D_52 : D 52 = ⟨.slice 64, 1, 24, [.nils]⟩ := rfl
theorem D_53 : D 53 = ⟨.struct [(0, 9), (1, 3), (2, 52)], 3, 48, [.str [], .int .i64 0, .nils]⟩ := rfl
theorem D_54 : D 54 = ⟨.struct [(0, 9), (1, 3), (2, 52)], 3, 48, [.str [], .int .i64 0, .nils]⟩ := rfl
theorem D_55 : D 55 = ⟨.ref, 1, 8, [.junk]⟩ := rfl
theorem D_56 : D 56 = ⟨.slice 54, 1, 24, [.nils]⟩ := rfl
theorem D_57 : D 57 = ⟨.struct [(0, 56), (1, 3)], 2, 32, [.nils, .int .i64 0]⟩ := rfl
theorem D_58 : D 58 = ⟨.struct [(0, 56), (1, 3)], 2, 32, [.nils, .int .i64 0]⟩ := rfl
theorem D_60 : D 60 = ⟨.ref, 1, 8, [.junk]⟩ := rfl
theorem D_61 : D 61 = ⟨.ref, 1, 8, [.junk]⟩ := rfl
theorem D_62 : D 62 = ⟨.ref, 1, 8, [.junk]⟩ := rfl
theorem D_63 : D 63 = ⟨.struct [(0, 3), (1, 3), (2, 3), (3, 4), (4, 3), (5, 42)], 7, 88, [.int .i64 0, .int .i64 0, .int .i64 0, .bool false, .int .i64 0, .nils, .nils]⟩ := rfl
theorem D_64 : D 64 = ⟨.struct [(0, 3), (1, 3), (2, 3), (3, 4), (4, 3), (5, 42)], 7, 88, [.int .i64 0, .int .i64 0, .int .i64 0, .bool false, .int .i64 0, .nils, .nils]⟩ := rfl
theorem D_66 : D 66 = ⟨.ref, 1, 8, [.junk]⟩ := rfl
theorem D_67 : D 67 = ⟨.ref, 1, 8, [.junk]⟩ := rfl
theorem D_68 : D 68 = ⟨.ref, 1, 8, [.junk]⟩ := rfl
theorem D_70 : D 70 = ⟨.ref, 1, 8, [.junk]⟩ := rfl
theorem D_72 : D 72 = ⟨.ref, 1, 8, [.junk]⟩ := rfl
theorem D_73 : D 73 = ⟨.slice 3, 1, 24, [.nils]⟩ := rfl
theorem D_75 : D 75 = ⟨.ref, 1, 8, [.junk]⟩ := rfl
theorem D_76 : D 76 = ⟨.ref, 1, 8, [.junk]⟩ := rfl
theorem D_77 : D 77 = ⟨.ref, 1, 8, [.junk]⟩ := rfl
theorem D_78 : D 78 = ⟨.ref, 1, 8, [.junk]⟩ := rfl
theorem D_79 : D 79 = ⟨.struct [(0, 3), (1, 9), (2, 3), (3, 42)], 5, 80, [.int .i64 0, .str [], .int .i64 0, .nils, .nils]⟩ := rfl
theorem D_80 : D 80 = ⟨.struct [(0, 3), (1, 9), (2, 3), (3, 42)], 5, 80, [.int .i64 0, .str [], .int .i64 0, .nils, .nils]⟩ := rfl
theorem D_81 : D 81 = ⟨.struct [(0, 3), (1, 3), (2, 3), (3, 30), (4, 42)], 6, 80, [.int .i64 0, .int .i64 0, .int .i64 0, .int .i64 0, .nils, .nils]⟩ := rfl
theorem D_82 : D 82 = ⟨.struct [(0, 3), (1, 3), (2, 3), (3, 30), (4, 42)], 6, 80, [.int .i64 0, .int .i64 0, .int .i64 0, .int .i64 0, .nils, .nils]⟩ := rfl
theorem D_83 : D 83 = ⟨.ref, 1, 8, [.junk]⟩ := rfl
theorem D_84 : D 84 = ⟨.ref, 1, 8, [.junk]⟩ := rfl
theorem D_85 : D 85 = ⟨.ref, 1, 8, [.junk]⟩ := rfl
theorem D_86 : D 86 = ⟨.ref, 1, 8, [.junk]⟩ := rfl
theorem D_88 : D 88 = ⟨.ref, 1, 8, [.junk]⟩ := rfl
theorem D_89 : D 89 = ⟨.ref, 1, 8, [.junk]⟩ := rfl
theorem D_91 : D 91 = ⟨.ref, 1, 8, [.junk]⟩ := rfl
theorem D_92 : D 92 = ⟨.ref, 1, 8, [.junk]⟩ := rfl
theorem D_93 : D 93 = ⟨.ref, 1, 8, [.junk]⟩ := rfl
theorem D_94 : D 94 = ⟨.ref, 1, 8, [.junk]⟩ := rfl
theorem D_95 : D 95 = ⟨.slice 30, 1, 24, [.nils]⟩ := rfl
theorem D_96 : D 96 = ⟨.ref, 1, 8, [.junk]⟩ := rfl
theorem D_97 : D 97 = ⟨.int .u64, 1, 8, [.int .u64 0]⟩ := rfl
theorem D_98 : D 98 = ⟨.struct [(0, 9), (1, 3), (2, 3), (3, 9)], 4, 48, [.str [], .int .i64 0, .int .i64 0, .str []]⟩ := rfl
theorem D_99 : D 99 = ⟨.struct [(0, 9), (1, 3), (2, 3), (3, 9)], 4, 48, [.str [], .int .i64 0, .int .i64 0, .str []]⟩ := rfl
theorem D_100 : D 100 = ⟨.ref, 1, 8, [.junk]⟩ := rfl
theorem D_103 : D 103 = ⟨.ref, 1, 8, [.junk]⟩ := rfl
theorem D_104 : D 104 = ⟨.ref, 1, 8, [.junk]⟩ := rfl
theorem D_105 : D 105 = ⟨.ref, 1, 8, [.junk]⟩ := rfl
theorem D_106 : D 106 = ⟨.ref, 1, 8, [.junk]⟩ := rfl
theorem D_107 : D 107 = ⟨.ref, 1, 8, [.junk]⟩ := rfl
theorem D_108 : D 108 = ⟨.ref, 1, 8, [.junk]⟩ := rfl
theorem D_109 : D 109 = ⟨.ref, 1, 8, [.junk]⟩ := rfl
theorem D_110 : D 110 = ⟨.struct [(0, 22), (1, 4)], 2, 32, [.nils, .bool false]⟩ := rfl
theorem D_111 : D 111 = ⟨.struct [(0, 22), (1, 4)], 2, 32, [.nils, .bool false]⟩ := rfl
theorem D_112 : D 112 = ⟨.ref, 1, 8, [.junk]⟩ := rfl
theorem D_113 : D 113 = ⟨.int .u32, 1, 4, [.int .u32 0]⟩ := rfl
theorem D_114 : D 114 = ⟨.ref, 1, 8, [.junk]⟩ := rfl
theorem D_115 : D 115 = ⟨.ref, 1, 8, [.junk]⟩ := rfl
theorem D_116 : D 116 = ⟨.ref, 1, 8, [.junk]⟩ := rfl
theorem D_117 : D 117 = ⟨.ref, 1, 8, [.junk]⟩ := rfl
theorem D_118 : D 118 = ⟨.ref, 1, 8, [.junk]⟩ := rfl
theorem D_119 : D 119 = ⟨.ref, 1, 8, [.junk]⟩ := rfl
theorem D_120 : D 120 = ⟨.ref, 1, 8, [.junk]⟩ := rfl
theorem D_121 : D 121 = ⟨.ref, 1, 8, [.junk]⟩ := rfl
theorem D_122 : D 122 = ⟨.ref, 1, 8, [.junk]⟩ := rfl
theorem D_123 : D 123 = ⟨.ref, 1, 8, [.junk]⟩ := rfl
theorem D_126 : D 126 = ⟨.ref, 1, 8, [.junk]⟩ := rfl
theorem D_128 : D 128 = ⟨.ref, 1, 8, [.junk]⟩ := rfl
theorem D_130 : D 130 = ⟨.ref, 1, 8, [.junk]⟩ := rfl
theorem D_131 : D 131 = ⟨.ref, 1, 8, [.junk]⟩ := rfl
theorem D_132 : D 132 = ⟨.struct [(0, 17), (1, 17), (2, 17), (3, 9)], 4, 40, [.junk, .junk, .junk, .str []]⟩ := rfl
theorem D_133 : D 133 = ⟨.struct [(0, 17), (1, 17), (2, 17), (3, 9)], 4, 40, [.junk, .junk, .junk, .str []]⟩ := rfl
theorem D_137 : D 137 = ⟨.ref, 1, 8, [.junk]⟩ := rfl
theorem D_138 : D 138 = ⟨.int .u8, 1, 1, [.int .u8 0]⟩ := rfl
theorem D_139 : D 139 = ⟨.int .u8, 1, 1, [.int .u8 0]⟩ := rfl
theorem D_140 : D 140 = ⟨.ref, 1, 8, [.junk]⟩ := rfl
theorem D_141 : D 141 = ⟨.ref, 1, 8, [.junk]⟩ := rfl
theorem D_142 : D 142 = ⟨.int .i32, 1, 4, [.int .i32 0]⟩ := rfl
theorem D_143 : D 143 = ⟨.int .i32, 1, 4, [.int .i32 0]⟩ := rfl
theorem D_144 : D 144 = ⟨.struct [(0, 12), (1, 12), (2, 113), (3, 138), (4, 5), (5, 5), (6, 139), (7, 140), (8, 141), (9, 142), (10, 143)], 11, 48, [.int .u64 0, .int .u64 0, .int .u32 0, .int .u8 0, .int .u8 0, .int .u8 0, .int .u8 0, .junk, .junk, .int .i32 0, .int .i32 0]⟩ := rfl
theorem D_145 : D 145 = ⟨.struct [(0, 12), (1, 12), (2, 113), (3, 138), (4, 5), (5, 5), (6, 139), (7, 140), (8, 141), (9, 142), (10, 143)], 11, 48, [.int .u64 0, .int .u64 0, .int .u32 0, .int .u8 0, .int .u8 0, .int .u8 0, .int .u8 0, .junk, .junk, .int .i32 0, .int .i32 0]⟩ := rfl
theorem get_mem {α : Type} {n : Nat} {x : α} : ∀ {l : List (Nat × α)}, get n l = some x → (n, x) ∈ l
  | [], h => by simp [get] at h
  | (k, y) :: r, h => by
    simp only [get] at h
    split at h
    · rename_i e; subst e; cases h; exact List.mem_cons_self ..
    · exact List.mem_cons_of_mem _ (get_mem h)
theorem tyTab_ok : tyTab.all (fun p => tyB Try.prog D p.1 p.2) = true := by kernel_rfl
theorem tok : TOk Try.prog D := by
  intro T
  unfold D
  cases h : get T tyTab with
  | none => rfl
  | some d => exact List.all_eq_true.1 tyTab_ok _ (get_mem h)
theorem mixed : Try.prog.follows .mixedOrders = true := by kernel_rfl
end Go.Proofs.Ytcgdjdlcecnanaa.Ab
