/- The types of this program, and how its drawn regions are walked: printed by vmgen.py. -/
import Derived.Test.YthaccjcadgodlaaDoorRows
import Derived.Test.YthaccjcadgodlaaDoorVm14
namespace Go.Proofs.YthaccjcadgodlaaDoor.Vm
set_option linter.unusedSimpArgs false
set_option linter.unusedVariables false
def tab : List (Nat × Te) := [
  (1, ⟨.other, [.nilFunc], 8⟩),
  (2, ⟨.int .i64, [.int .i64 0], 8⟩),
  (3, ⟨.int .i64, [.int .i64 0], 8⟩),
  (4, ⟨.bool, [.bool false], 1⟩),
  (5, ⟨.int .u8, [.int .u8 0], 1⟩),
  (6, ⟨.int .u8, [.int .u8 0], 1⟩),
  (7, ⟨.struct [(0, 2), (1, 3), (2, 4), (3, 6)], [.int .i64 0, .int .i64 0, .bool false, .int .u8 0], 24⟩),
  (8, ⟨.struct [(0, 2), (1, 3), (2, 4), (3, 6)], [.int .i64 0, .int .i64 0, .bool false, .int .u8 0], 24⟩),
  (9, ⟨.str, [.string ⟨#[]⟩], 16⟩),
  (10, ⟨.str, [.string ⟨#[]⟩], 16⟩),
  (11, ⟨.str, [.string ⟨#[]⟩], 16⟩),
  (12, ⟨.int .u64, [.int .u64 0], 8⟩),
  (13, ⟨.struct [(0, 9), (1, 12)], [.string ⟨#[]⟩, .int .u64 0], 24⟩),
  (14, ⟨.struct [(0, 9), (1, 12)], [.string ⟨#[]⟩, .int .u64 0], 24⟩),
  (15, ⟨.other, [.pointer none], 8⟩),
  (16, ⟨.other, [.pointer none], 8⟩),
  (17, ⟨.other, [.pointer none], 8⟩),
  (18, ⟨.struct [(0, 17)], [.pointer none], 8⟩),
  (19, ⟨.struct [(0, 17)], [.pointer none], 8⟩),
  (20, ⟨.iface, [.nilIface], 16⟩),
  (21, ⟨.int .i32, [.int .i32 0], 4⟩),
  (22, ⟨.slice 3, [.slice none 0 0], 24⟩),
  (23, ⟨.other, [.nilFunc], 8⟩),
  (24, ⟨.other, [.nilFunc], 8⟩),
  (25, ⟨.slice 5, [.slice none 0 0], 24⟩),
  (26, ⟨.other, [.nilFunc], 8⟩),
  (27, ⟨.other, [.nilFunc], 8⟩),
  (28, ⟨.other, [.nilFunc], 8⟩),
  (29, ⟨.other, [.nilFunc], 8⟩),
  (30, ⟨.slice 9, [.slice none 0 0], 24⟩),
  (31, ⟨.slice 36, [.slice none 0 0], 24⟩),
  (32, ⟨.int .i64, [.int .i64 0], 8⟩),
  (34, ⟨.other, [.nilFunc], 8⟩),
  (35, ⟨.struct [(0, 3), (1, 3), (2, 9), (3, 3)], [.int .i64 0, .int .i64 0, .string ⟨#[]⟩, .int .i64 0], 40⟩),
  (36, ⟨.struct [(0, 3), (1, 3), (2, 9), (3, 3)], [.int .i64 0, .int .i64 0, .string ⟨#[]⟩, .int .i64 0], 40⟩),
  (37, ⟨.other, [.nilFunc], 8⟩),
  (38, ⟨.other, [.nilFunc], 8⟩),
  (39, ⟨.other, [.nilFunc], 8⟩),
  (40, ⟨.other, [.nilFunc], 8⟩),
  (41, ⟨.other, [.nilFunc], 8⟩),
  (42, ⟨.other, [.nilFunc], 8⟩),
  (43, ⟨.other, [.nilFunc], 8⟩),
  (44, ⟨.other, [.nilFunc], 8⟩),
  (45, ⟨.slice 49, [.slice none 0 0], 24⟩),
  (47, ⟨.other, [.nilFunc], 8⟩),
  (48, ⟨.other, [.nilFunc], 8⟩),
  (49, ⟨.struct [(0, 3), (1, 3), (2, 9), (3, 3)], [.int .i64 0, .int .i64 0, .string ⟨#[]⟩, .int .i64 0], 40⟩),
  (50, ⟨.other, [.nilFunc], 8⟩),
  (51, ⟨.other, [.nilFunc], 8⟩),
  (52, ⟨.other, [.nilFunc], 8⟩),
  (53, ⟨.struct [(0, 3), (1, 32)], [.int .i64 0, .int .i64 0], 16⟩),
  (54, ⟨.struct [(0, 3), (1, 32)], [.int .i64 0, .int .i64 0], 16⟩),
  (55, ⟨.other, [.nilFunc], 8⟩),
  (56, ⟨.other, [.nilFunc], 8⟩),
  (58, ⟨.other, [.nilFunc], 8⟩),
  (59, ⟨.int .u8, [.int .u8 0], 1⟩),
  (60, ⟨.arr 256 59, [.int .u8 0, .int .u8 0, .int .u8 0, .int .u8 0, .int .u8 0, .int .u8 0, .int .u8 0, .int .u8 0, .int .u8 0, .int .u8 0, .int .u8 0, .int .u8 0, .int .u8 0, .int .u8 0, .int .u8 0, .int .u8 0, .int .u8 0, .int .u8 0, .int .u8 0, .int .u8 0, .int .u8 0, .int .u8 0, .int .u8 0, .int .u8 0, .int .u8 0, .int .u8 0, .int .u8 0, .int .u8 0, .int .u8 0, .int .u8 0, .int .u8 0, .int .u8 0, .int .u8 0, .int .u8 0, .int .u8 0, .int .u8 0, .int .u8 0, .int .u8 0, .int .u8 0, .int .u8 0, .int .u8 0, .int .u8 0, .int .u8 0, .int .u8 0, .int .u8 0, .int .u8 0, .int .u8 0, .int .u8 0, .int .u8 0, .int .u8 0, .int .u8 0, .int .u8 0, .int .u8 0, .int .u8 0, .int .u8 0, .int .u8 0, .int .u8 0, .int .u8 0, .int .u8 0, .int .u8 0, .int .u8 0, .int .u8 0, .int .u8 0, .int .u8 0, .int .u8 0, .int .u8 0, .int .u8 0, .int .u8 0, .int .u8 0, .int .u8 0, .int .u8 0, .int .u8 0, .int .u8 0, .int .u8 0, .int .u8 0, .int .u8 0, .int .u8 0, .int .u8 0, .int .u8 0, .int .u8 0, .int .u8 0, .int .u8 0, .int .u8 0, .int .u8 0, .int .u8 0, .int .u8 0, .int .u8 0, .int .u8 0, .int .u8 0, .int .u8 0, .int .u8 0, .int .u8 0, .int .u8 0, .int .u8 0, .int .u8 0, .int .u8 0, .int .u8 0, .int .u8 0, .int .u8 0, .int .u8 0, .int .u8 0, .int .u8 0, .int .u8 0, .int .u8 0, .int .u8 0, .int .u8 0, .int .u8 0, .int .u8 0, .int .u8 0, .int .u8 0, .int .u8 0, .int .u8 0, .int .u8 0, .int .u8 0, .int .u8 0, .int .u8 0, .int .u8 0, .int .u8 0, .int .u8 0, .int .u8 0, .int .u8 0, .int .u8 0, .int .u8 0, .int .u8 0, .int .u8 0, .int .u8 0, .int .u8 0, .int .u8 0, .int .u8 0, .int .u8 0, .int .u8 0, .int .u8 0, .int .u8 0, .int .u8 0, .int .u8 0, .int .u8 0, .int .u8 0, .int .u8 0, .int .u8 0, .int .u8 0, .int .u8 0, .int .u8 0, .int .u8 0, .int .u8 0, .int .u8 0, .int .u8 0, .int .u8 0, .int .u8 0, .int .u8 0, .int .u8 0, .int .u8 0, .int .u8 0, .int .u8 0, .int .u8 0, .int .u8 0, .int .u8 0, .int .u8 0, .int .u8 0, .int .u8 0, .int .u8 0, .int .u8 0, .int .u8 0, .int .u8 0, .int .u8 0, .int .u8 0, .int .u8 0, .int .u8 0, .int .u8 0, .int .u8 0, .int .u8 0, .int .u8 0, .int .u8 0, .int .u8 0, .int .u8 0, .int .u8 0, .int .u8 0, .int .u8 0, .int .u8 0, .int .u8 0, .int .u8 0, .int .u8 0, .int .u8 0, .int .u8 0, .int .u8 0, .int .u8 0, .int .u8 0, .int .u8 0, .int .u8 0, .int .u8 0, .int .u8 0, .int .u8 0, .int .u8 0, .int .u8 0, .int .u8 0, .int .u8 0, .int .u8 0, .int .u8 0, .int .u8 0, .int .u8 0, .int .u8 0, .int .u8 0, .int .u8 0, .int .u8 0, .int .u8 0, .int .u8 0, .int .u8 0, .int .u8 0, .int .u8 0, .int .u8 0, .int .u8 0, .int .u8 0, .int .u8 0, .int .u8 0, .int .u8 0, .int .u8 0, .int .u8 0, .int .u8 0, .int .u8 0, .int .u8 0, .int .u8 0, .int .u8 0, .int .u8 0, .int .u8 0, .int .u8 0, .int .u8 0, .int .u8 0, .int .u8 0, .int .u8 0, .int .u8 0, .int .u8 0, .int .u8 0, .int .u8 0, .int .u8 0, .int .u8 0, .int .u8 0, .int .u8 0, .int .u8 0, .int .u8 0, .int .u8 0, .int .u8 0, .int .u8 0, .int .u8 0, .int .u8 0, .int .u8 0, .int .u8 0, .int .u8 0, .int .u8 0, .int .u8 0, .int .u8 0, .int .u8 0, .int .u8 0, .int .u8 0, .int .u8 0, .int .u8 0, .int .u8 0, .int .u8 0], 256⟩),
  (61, ⟨.other, [.nilFunc], 8⟩),
  (62, ⟨.other, [.nilFunc], 8⟩),
  (63, ⟨.other, [.nilFunc], 8⟩),
  (64, ⟨.other, [.nilFunc], 8⟩),
  (65, ⟨.other, [.nilFunc], 8⟩),
  (66, ⟨.other, [.nilFunc], 8⟩),
  (67, ⟨.int .u64, [.int .u64 0], 8⟩),
  (68, ⟨.iface, [.nilIface], 16⟩),
  (69, ⟨.iface, [.nilIface], 16⟩),
  (71, ⟨.other, [.nilFunc], 8⟩),
  (72, ⟨.other, [.nilFunc], 8⟩),
  (73, ⟨.other, [.nilFunc], 8⟩),
  (74, ⟨.other, [.nilFunc], 8⟩),
  (75, ⟨.other, [.nilFunc], 8⟩),
  (76, ⟨.int .i64, [.int .i64 0], 8⟩),
  (77, ⟨.other, [.nilFunc], 8⟩),
  (78, ⟨.int .u64, [.int .u64 0], 8⟩),
  (79, ⟨.other, [.pointer none], 8⟩),
  (80, ⟨.other, [.nilFunc], 8⟩),
  (81, ⟨.other, [.nilFunc], 8⟩),
  (82, ⟨.other, [.nilFunc], 8⟩),
  (83, ⟨.struct [(0, 9), (1, 9), (2, 69)], [.string ⟨#[]⟩, .string ⟨#[]⟩, .nilIface], 48⟩),
  (84, ⟨.struct [(0, 9), (1, 9), (2, 69)], [.string ⟨#[]⟩, .string ⟨#[]⟩, .nilIface], 48⟩),
  (85, ⟨.other, [.nilFunc], 8⟩),
  (86, ⟨.other, [.pointer none], 8⟩),
  (87, ⟨.other, [.pointer none], 8⟩),
  (88, ⟨.struct [(0, 9)], [.string ⟨#[]⟩], 16⟩),
  (89, ⟨.struct [(0, 9)], [.string ⟨#[]⟩], 16⟩),
  (90, ⟨.other, [.nilFunc], 8⟩),
  (91, ⟨.arr 24 5, [.int .u8 0, .int .u8 0, .int .u8 0, .int .u8 0, .int .u8 0, .int .u8 0, .int .u8 0, .int .u8 0, .int .u8 0, .int .u8 0, .int .u8 0, .int .u8 0, .int .u8 0, .int .u8 0, .int .u8 0, .int .u8 0, .int .u8 0, .int .u8 0, .int .u8 0, .int .u8 0, .int .u8 0, .int .u8 0, .int .u8 0, .int .u8 0], 24⟩),
  (92, ⟨.other, [.nilFunc], 8⟩),
  (93, ⟨.other, [.nilFunc], 8⟩),
  (95, ⟨.other, [.nilFunc], 8⟩),
  (96, ⟨.other, [.nilFunc], 8⟩),
  (97, ⟨.other, [.nilFunc], 8⟩),
  (98, ⟨.arr 20 67, [.int .u64 0, .int .u64 0, .int .u64 0, .int .u64 0, .int .u64 0, .int .u64 0, .int .u64 0, .int .u64 0, .int .u64 0, .int .u64 0, .int .u64 0, .int .u64 0, .int .u64 0, .int .u64 0, .int .u64 0, .int .u64 0, .int .u64 0, .int .u64 0, .int .u64 0, .int .u64 0], 160⟩),
  (99, ⟨.int .u32, [.int .u32 0], 4⟩),
  (100, ⟨.arr 65 5, [.int .u8 0, .int .u8 0, .int .u8 0, .int .u8 0, .int .u8 0, .int .u8 0, .int .u8 0, .int .u8 0, .int .u8 0, .int .u8 0, .int .u8 0, .int .u8 0, .int .u8 0, .int .u8 0, .int .u8 0, .int .u8 0, .int .u8 0, .int .u8 0, .int .u8 0, .int .u8 0, .int .u8 0, .int .u8 0, .int .u8 0, .int .u8 0, .int .u8 0, .int .u8 0, .int .u8 0, .int .u8 0, .int .u8 0, .int .u8 0, .int .u8 0, .int .u8 0, .int .u8 0, .int .u8 0, .int .u8 0, .int .u8 0, .int .u8 0, .int .u8 0, .int .u8 0, .int .u8 0, .int .u8 0, .int .u8 0, .int .u8 0, .int .u8 0, .int .u8 0, .int .u8 0, .int .u8 0, .int .u8 0, .int .u8 0, .int .u8 0, .int .u8 0, .int .u8 0, .int .u8 0, .int .u8 0, .int .u8 0, .int .u8 0, .int .u8 0, .int .u8 0, .int .u8 0, .int .u8 0, .int .u8 0, .int .u8 0, .int .u8 0, .int .u8 0, .int .u8 0], 65⟩),
  (101, ⟨.other, [.nilFunc], 8⟩),
  (102, ⟨.other, [.nilFunc], 8⟩),
  (103, ⟨.other, [.nilFunc], 8⟩),
  (104, ⟨.arr 32 5, [.int .u8 0, .int .u8 0, .int .u8 0, .int .u8 0, .int .u8 0, .int .u8 0, .int .u8 0, .int .u8 0, .int .u8 0, .int .u8 0, .int .u8 0, .int .u8 0, .int .u8 0, .int .u8 0, .int .u8 0, .int .u8 0, .int .u8 0, .int .u8 0, .int .u8 0, .int .u8 0, .int .u8 0, .int .u8 0, .int .u8 0, .int .u8 0, .int .u8 0, .int .u8 0, .int .u8 0, .int .u8 0, .int .u8 0, .int .u8 0, .int .u8 0, .int .u8 0], 32⟩),
  (105, ⟨.arr 64 5, [.int .u8 0, .int .u8 0, .int .u8 0, .int .u8 0, .int .u8 0, .int .u8 0, .int .u8 0, .int .u8 0, .int .u8 0, .int .u8 0, .int .u8 0, .int .u8 0, .int .u8 0, .int .u8 0, .int .u8 0, .int .u8 0, .int .u8 0, .int .u8 0, .int .u8 0, .int .u8 0, .int .u8 0, .int .u8 0, .int .u8 0, .int .u8 0, .int .u8 0, .int .u8 0, .int .u8 0, .int .u8 0, .int .u8 0, .int .u8 0, .int .u8 0, .int .u8 0, .int .u8 0, .int .u8 0, .int .u8 0, .int .u8 0, .int .u8 0, .int .u8 0, .int .u8 0, .int .u8 0, .int .u8 0, .int .u8 0, .int .u8 0, .int .u8 0, .int .u8 0, .int .u8 0, .int .u8 0, .int .u8 0, .int .u8 0, .int .u8 0, .int .u8 0, .int .u8 0, .int .u8 0, .int .u8 0, .int .u8 0, .int .u8 0, .int .u8 0, .int .u8 0, .int .u8 0, .int .u8 0, .int .u8 0, .int .u8 0, .int .u8 0, .int .u8 0], 64⟩),
  (106, ⟨.other, [.nilFunc], 8⟩),
  (107, ⟨.struct [(0, 17), (1, 17), (2, 17), (3, 9)], [.pointer none, .pointer none, .pointer none, .string ⟨#[]⟩], 40⟩),
  (108, ⟨.struct [(0, 17), (1, 17), (2, 17), (3, 9)], [.pointer none, .pointer none, .pointer none, .string ⟨#[]⟩], 40⟩),
  (109, ⟨.arr 0 16, [], 0⟩),
  (110, ⟨.struct [(0, 109)], [], 0⟩),
  (111, ⟨.struct [(0, 109)], [], 0⟩),
  (112, ⟨.other, [.nilFunc], 8⟩),
  (113, ⟨.int .u8, [.int .u8 0], 1⟩),
  (114, ⟨.int .u8, [.int .u8 0], 1⟩),
  (115, ⟨.other, [.nilFunc], 8⟩),
  (116, ⟨.int .i32, [.int .i32 0], 4⟩),
  (117, ⟨.int .i32, [.int .i32 0], 4⟩),
  (118, ⟨.struct [(0, 12), (1, 12), (2, 99), (3, 113), (4, 5), (5, 5), (6, 114), (7, 115), (8, 86), (9, 116), (10, 117)], [.int .u64 0, .int .u64 0, .int .u32 0, .int .u8 0, .int .u8 0, .int .u8 0, .int .u8 0, .nilFunc, .pointer none, .int .i32 0, .int .i32 0], 48⟩),
  (119, ⟨.struct [(0, 12), (1, 12), (2, 99), (3, 113), (4, 5), (5, 5), (6, 114), (7, 115), (8, 86), (9, 116), (10, 117)], [.int .u64 0, .int .u64 0, .int .u32 0, .int .u8 0, .int .u8 0, .int .u8 0, .int .u8 0, .nilFunc, .pointer none, .int .i32 0, .int .i32 0], 48⟩),
  (120, ⟨.other, [.pointer none], 8⟩)]
set_option maxRecDepth 100000 in
theorem tab_ok : Tab.ok Tryd.prog tab :=
  Tab.ok_cons (by kernel_rfl) <|
  Tab.ok_cons (by kernel_rfl) <|
  Tab.ok_cons (by kernel_rfl) <|
  Tab.ok_cons (by kernel_rfl) <|
  Tab.ok_cons (by kernel_rfl) <|
  Tab.ok_cons (by kernel_rfl) <|
  Tab.ok_cons (by kernel_rfl) <|
  Tab.ok_cons (by kernel_rfl) <|
  Tab.ok_cons (by kernel_rfl) <|
  Tab.ok_cons (by kernel_rfl) <|
  Tab.ok_cons (by kernel_rfl) <|
  Tab.ok_cons (by kernel_rfl) <|
  Tab.ok_cons (by kernel_rfl) <|
  Tab.ok_cons (by kernel_rfl) <|
  Tab.ok_cons (by kernel_rfl) <|
  Tab.ok_cons (by kernel_rfl) <|
  Tab.ok_cons (by kernel_rfl) <|
  Tab.ok_cons (by kernel_rfl) <|
  Tab.ok_cons (by kernel_rfl) <|
  Tab.ok_cons (by kernel_rfl) <|
  Tab.ok_cons (by kernel_rfl) <|
  Tab.ok_cons (by kernel_rfl) <|
  Tab.ok_cons (by kernel_rfl) <|
  Tab.ok_cons (by kernel_rfl) <|
  Tab.ok_cons (by kernel_rfl) <|
  Tab.ok_cons (by kernel_rfl) <|
  Tab.ok_cons (by kernel_rfl) <|
  Tab.ok_cons (by kernel_rfl) <|
  Tab.ok_cons (by kernel_rfl) <|
  Tab.ok_cons (by kernel_rfl) <|
  Tab.ok_cons (by kernel_rfl) <|
  Tab.ok_cons (by kernel_rfl) <|
  Tab.ok_cons (by kernel_rfl) <|
  Tab.ok_cons (by kernel_rfl) <|
  Tab.ok_cons (by kernel_rfl) <|
  Tab.ok_cons (by kernel_rfl) <|
  Tab.ok_cons (by kernel_rfl) <|
  Tab.ok_cons (by kernel_rfl) <|
  Tab.ok_cons (by kernel_rfl) <|
  Tab.ok_cons (by kernel_rfl) <|
  Tab.ok_cons (by kernel_rfl) <|
  Tab.ok_cons (by kernel_rfl) <|
  Tab.ok_cons (by kernel_rfl) <|
  Tab.ok_cons (by kernel_rfl) <|
  Tab.ok_cons (by kernel_rfl) <|
  Tab.ok_cons (by kernel_rfl) <|
  Tab.ok_cons (by kernel_rfl) <|
  Tab.ok_cons (by kernel_rfl) <|
  Tab.ok_cons (by kernel_rfl) <|
  Tab.ok_cons (by kernel_rfl) <|
  Tab.ok_cons (by kernel_rfl) <|
  Tab.ok_cons (by kernel_rfl) <|
  Tab.ok_cons (by kernel_rfl) <|
  Tab.ok_cons (by kernel_rfl) <|
  Tab.ok_cons (by kernel_rfl) <|
  Tab.ok_cons (by kernel_rfl) <|
  Tab.ok_cons (by kernel_rfl) <|
  Tab.ok_cons (by kernel_rfl) <|
  Tab.ok_cons (by kernel_rfl) <|
  Tab.ok_cons (by kernel_rfl) <|
  Tab.ok_cons (by kernel_rfl) <|
  Tab.ok_cons (by kernel_rfl) <|
  Tab.ok_cons (by kernel_rfl) <|
  Tab.ok_cons (by kernel_rfl) <|
  Tab.ok_cons (by kernel_rfl) <|
  Tab.ok_cons (by kernel_rfl) <|
  Tab.ok_cons (by kernel_rfl) <|
  Tab.ok_cons (by kernel_rfl) <|
  Tab.ok_cons (by kernel_rfl) <|
  Tab.ok_cons (by kernel_rfl) <|
  Tab.ok_cons (by kernel_rfl) <|
  Tab.ok_cons (by kernel_rfl) <|
  Tab.ok_cons (by kernel_rfl) <|
  Tab.ok_cons (by kernel_rfl) <|
  Tab.ok_cons (by kernel_rfl) <|
  Tab.ok_cons (by kernel_rfl) <|
  Tab.ok_cons (by kernel_rfl) <|
  Tab.ok_cons (by kernel_rfl) <|
  Tab.ok_cons (by kernel_rfl) <|
  Tab.ok_cons (by kernel_rfl) <|
  Tab.ok_cons (by kernel_rfl) <|
  Tab.ok_cons (by kernel_rfl) <|
  Tab.ok_cons (by kernel_rfl) <|
  Tab.ok_cons (by kernel_rfl) <|
  Tab.ok_cons (by kernel_rfl) <|
  Tab.ok_cons (by kernel_rfl) <|
  Tab.ok_cons (by kernel_rfl) <|
  Tab.ok_cons (by kernel_rfl) <|
  Tab.ok_cons (by kernel_rfl) <|
  Tab.ok_cons (by kernel_rfl) <|
  Tab.ok_cons (by kernel_rfl) <|
  Tab.ok_cons (by kernel_rfl) <|
  Tab.ok_cons (by kernel_rfl) <|
  Tab.ok_cons (by kernel_rfl) <|
  Tab.ok_cons (by kernel_rfl) <|
  Tab.ok_cons (by kernel_rfl) <|
  Tab.ok_cons (by kernel_rfl) <|
  Tab.ok_cons (by kernel_rfl) <|
  Tab.ok_cons (by kernel_rfl) <|
  Tab.ok_cons (by kernel_rfl) <|
  Tab.ok_cons (by kernel_rfl) <|
  Tab.ok_cons (by kernel_rfl) <|
  Tab.ok_cons (by kernel_rfl) <|
  Tab.ok_cons (by kernel_rfl) <|
  Tab.ok_cons (by kernel_rfl) <|
  Tab.ok_cons (by kernel_rfl) <|
  Tab.ok_cons (by kernel_rfl) <|
  Tab.ok_cons (by kernel_rfl) <|
  Tab.ok_cons (by kernel_rfl) <|
  Tab.ok_cons (by kernel_rfl) <|
  Tab.ok_cons (by kernel_rfl) <|
  Tab.ok_cons (by kernel_rfl) <|
  Tab.ok_cons (by kernel_rfl) <|
  Tab.ok_cons (by kernel_rfl) <|
  Tab.ok_cons (by kernel_rfl) <| Tab.ok_nil _
theorem zero_of {T : List (Nat × Te)} (h : (T.all fun x => x.2.z.all fun u => u.oneCell') = true) : zeroOk T := fun t e he u hu => by
  induction T with
  | nil => simp [Tab.get] at he
  | cons x r ih =>
    obtain ⟨i, e1⟩ := x
    simp only [List.all_cons, Bool.and_eq_true] at h
    unfold Tab.get at he
    split at he
    · cases he
      exact List.all_eq_true.1 h.1 u hu
    · exact ih h.2 he
theorem tab_z : zeroOk tab := zero_of (by kernel_rfl)
theorem mixed : Tryd.prog.follows .mixedOrders = true := by kernel_rfl
def ord3 (id : Nat) : Tr := match Nat.beq id 5 with | true => .q 0 3 (.q 1 3 (.q 2 3 (.q 3 3 (.q 7 3 (.q 8 3 (.q 9 3 (.q 10 3 (.alt 4 1 (.alt 5 1 (.q 6 3 (.q 11 3 (.q 12 3 (.nil)))) (.nil)) (.nil))))))))) | false => .nil
def ord4 (id : Nat) : Tr := match Nat.beq id 14 with | true => .q 0 3 (.q 1 3 (.q 2 3 (.q 3 3 (.q 4 0 (.q 5 3 (.q 6 3 (.q 7 3 (.q 8 3 (.q 9 3 (.q 10 3 (.q 11 3 (.q 12 0 (.q 13 3 (.q 14 3 (.q 15 3 (.q 16 3 (.q 17 0 (.q 18 3 (.q 19 3 (.q 20 3 (.q 21 3 (.q 22 3 (.q 23 3 (.q 24 3 (.q 25 3 (.q 26 3 (.q 27 3 (.q 28 3 (.q 29 0 (.q 30 3 (.q 31 3 (.q 32 3 (.q 33 3 (.q 34 3 (.q 35 3 (.q 36 3 (.q 37 3 (.nil)))))))))))))))))))))))))))))))))))))) | false => match Nat.beq id 16 with | true => .q 0 3 (.q 1 3 (.q 2 3 (.q 3 3 (.q 4 3 (.q 5 0 (.q 6 3 (.q 7 3 (.q 8 3 (.q 9 3 (.q 10 0 (.q 11 3 (.q 12 3 (.q 13 3 (.q 14 3 (.q 15 0 (.q 16 3 (.q 17 3 (.q 18 3 (.q 19 3 (.q 20 3 (.q 21 3 (.q 22 3 (.q 23 0 (.q 24 3 (.nil))))))))))))))))))))))))) | false => match Nat.beq id 21 with | true => .q 0 3 (.q 1 3 (.q 2 3 (.q 3 3 (.q 4 0 (.q 5 3 (.q 6 3 (.q 7 3 (.q 8 3 (.q 9 0 (.q 10 3 (.q 11 3 (.q 12 3 (.nil))))))))))))) | false => .nil
def ord5 (id : Nat) : Tr := match Nat.beq id 11 with | true => .q 0 3 (.q 2 3 (.q 6 3 (.q 7 3 (.q 8 3 (.q 9 3 (.q 10 0 (.alt 1 1 (.q 3 3 (.q 4 0 (.q 5 3 (.q 11 3 (.q 12 3 (.nil)))))) (.nil)))))))) | false => match Nat.beq id 18 with | true => .q 0 3 (.q 1 3 (.q 2 3 (.q 3 3 (.q 4 0 (.q 5 3 (.q 6 3 (.q 7 3 (.q 8 3 (.q 9 0 (.q 10 3 (.q 11 3 (.q 12 3 (.q 13 3 (.q 14 3 (.q 15 3 (.q 16 0 (.q 17 3 (.q 18 3 (.q 19 3 (.q 20 3 (.q 21 0 (.q 22 3 (.q 23 3 (.q 24 3 (.q 25 3 (.q 26 3 (.q 27 3 (.q 28 3 (.q 29 0 (.q 30 3 (.q 31 3 (.q 32 3 (.q 33 3 (.q 34 0 (.q 35 3 (.q 36 3 (.nil))))))))))))))))))))))))))))))))))))) | false => .nil
def ord6 (id : Nat) : Tr := match Nat.beq id 22 with | true => .q 0 3 (.q 1 3 (.q 2 3 (.q 3 0 (.q 4 0 (.q 5 3 (.nil)))))) | false => .nil
def ord10 (id : Nat) : Tr := match Nat.beq id 11 with | true => .q 0 3 (.q 1 3 (.q 2 3 (.q 3 3 (.q 4 0 (.q 6 3 (.q 7 3 (.q 8 3 (.q 9 3 (.q 10 3 (.q 11 0 (.alt 5 1 (.q 12 3 (.q 13 3 (.nil))) (.nil)))))))))))) | false => .nil
def ord12 (id : Nat) : Tr := match Nat.beq id 8 with | true => .q 0 3 (.q 1 3 (.q 2 3 (.q 3 0 (.q 4 3 (.q 5 3 (.q 6 3 (.q 7 0 (.alt 8 1 (.q 9 3 (.nil)) (.nil))))))))) | false => .nil
def ord14 (id : Nat) : Tr := match Nat.beq id 5 with | true => .q 0 3 (.q 1 3 (.q 2 0 (.q 3 3 (.q 4 3 (.q 5 0 (.alt 6 1 (.q 7 3 (.q 8 3 (.q 9 3 (.q 10 0 (.q 11 3 (.q 12 3 (.q 13 0 (.alt 14 1 (.q 15 3 (.q 16 3 (.q 17 3 (.q 18 3 (.q 19 0 (.q 20 3 (.q 21 3 (.q 22 0 (.alt 23 1 (.q 24 3 (.q 25 3 (.q 26 3 (.q 27 3 (.q 28 0 (.q 29 3 (.q 30 3 (.q 31 0 (.alt 32 1 (.q 33 3 (.q 34 3 (.nil))) (.nil)))))))))) (.nil)))))))))) (.nil))))))))) (.nil))))))) | false => .nil
def ord15 (id : Nat) : Tr := match Nat.beq id 6 with | true => .q 0 3 (.q 1 0 (.q 2 3 (.q 3 0 (.alt 4 1 (.alt 5 1 (.alt 6 2 (.nil) (.nil)) (.nil)) (.nil))))) | false => .nil
def ord26 (id : Nat) : Tr := match Nat.beq id 15 with | true => .q 0 0 (.q 1 3 (.q 4 3 (.alt 2 1 (.q 3 3 (.alt 5 1 (.q 6 3 (.alt 7 2 (.nil) (.nil))) (.nil))) (.nil)))) | false => match Nat.beq id 19 with | true => .q 0 0 (.q 1 3 (.q 4 3 (.alt 2 1 (.q 3 3 (.alt 5 1 (.q 6 3 (.alt 7 2 (.nil) (.nil))) (.nil))) (.nil)))) | false => match Nat.beq id 25 with | true => .q 0 0 (.q 1 3 (.q 2 3 (.alt 3 1 (.q 4 3 (.alt 5 2 (.nil) (.nil))) (.nil)))) | false => match Nat.beq id 27 with | true => .q 0 0 (.q 1 3 (.q 2 3 (.alt 3 1 (.q 4 3 (.alt 5 2 (.nil) (.nil))) (.nil)))) | false => .nil
def ord29 (id : Nat) : Tr := match Nat.beq id 1 with | true => .q 0 0 (.q 1 3 (.q 2 3 (.q 3 0 (.alt 4 1 (.q 5 3 (.q 6 3 (.nil))) (.nil))))) | false => .nil
def ord42 (id : Nat) : Tr := match Nat.beq id 1 with | true => .q 0 3 (.q 1 3 (.q 3 0 (.alt 2 1 (.q 4 3 (.alt 5 1 (.q 6 3 (.nil)) (.nil))) (.nil)))) | false => .nil
def ord43 (id : Nat) : Tr := match Nat.beq id 1 with | true => .q 0 3 (.q 1 3 (.q 3 0 (.alt 2 1 (.q 4 3 (.alt 5 1 (.q 6 3 (.nil)) (.nil))) (.nil)))) | false => .nil
def ord53 (id : Nat) : Tr := match Nat.beq id 7 with | true => .q 0 3 (.q 1 3 (.q 2 3 (.q 3 3 (.q 4 3 (.q 5 3 (.q 6 3 (.q 7 3 (.q 8 3 (.q 9 3 (.q 10 3 (.q 11 3 (.alt 12 2 (.q 13 3 (.alt 14 2 (.nil) (.nil))) (.nil))))))))))))) | false => match Nat.beq id 8 with | true => .q 0 3 (.q 1 3 (.q 2 3 (.q 3 3 (.q 4 3 (.q 5 3 (.q 6 3 (.q 7 3 (.q 8 3 (.q 9 3 (.q 10 3 (.q 11 3 (.alt 12 2 (.q 13 3 (.alt 14 2 (.nil) (.nil))) (.nil))))))))))))) | false => match Nat.beq id 9 with | true => .q 0 3 (.q 1 3 (.q 2 3 (.q 3 3 (.q 4 3 (.q 5 3 (.q 6 3 (.q 7 3 (.q 8 3 (.q 9 3 (.q 10 3 (.q 11 3 (.alt 12 2 (.q 13 3 (.alt 14 2 (.nil) (.nil))) (.nil))))))))))))) | false => match Nat.beq id 10 with | true => .q 0 3 (.q 1 3 (.q 2 3 (.q 3 3 (.q 4 3 (.q 5 3 (.q 6 3 (.q 7 3 (.q 8 3 (.q 9 3 (.q 10 3 (.q 11 3 (.alt 12 2 (.q 13 3 (.alt 14 2 (.nil) (.nil))) (.nil))))))))))))) | false => match Nat.beq id 17 with | true => .q 0 3 (.q 1 3 (.q 2 3 (.q 3 3 (.q 4 3 (.q 5 3 (.q 6 3 (.q 7 3 (.q 8 3 (.q 9 3 (.q 10 3 (.q 11 3 (.alt 12 2 (.q 13 3 (.alt 14 2 (.nil) (.nil))) (.nil))))))))))))) | false => match Nat.beq id 18 with | true => .q 0 3 (.q 1 3 (.q 2 3 (.q 3 3 (.q 4 3 (.q 5 3 (.q 6 3 (.q 7 3 (.q 8 3 (.q 9 3 (.q 10 3 (.q 11 3 (.alt 12 2 (.q 13 3 (.alt 14 2 (.nil) (.nil))) (.nil))))))))))))) | false => match Nat.beq id 23 with | true => .q 0 3 (.q 1 3 (.q 2 3 (.q 3 3 (.q 4 3 (.q 5 3 (.q 6 3 (.q 7 3 (.q 8 3 (.q 9 3 (.q 10 3 (.q 11 3 (.alt 12 2 (.q 13 3 (.alt 14 2 (.nil) (.nil))) (.nil))))))))))))) | false => .nil
def ord0 (_ : Nat) : Tr := .nil
def xs0 (_ : Nat) : List Nat := []
theorem cx_ok (ord : Nat → Tr) (xs : Nat → List Nat) (np : Nat) : (⟨Tryd.prog, tab, ord, xs, np⟩ : Cx).ok := ⟨tab_ok, tab_z, mixed⟩
end Go.Proofs.YthaccjcadgodlaaDoor.Vm
