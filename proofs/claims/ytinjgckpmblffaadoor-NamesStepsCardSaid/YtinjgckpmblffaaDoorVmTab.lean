/- The types of this program, and how its drawn regions are walked: printed by vmgen.py. -/
import Derived.Test.YtinjgckpmblffaaDoorRows
import Derived.Test.YtinjgckpmblffaaDoorVm14
namespace Go.Proofs.YtinjgckpmblffaaDoor.Vm
set_option linter.unusedSimpArgs false
set_option linter.unusedVariables false
def tab : List (Nat × Te) := [
  (1, ⟨.other, [.nilFunc], 8⟩),
  (2, ⟨.int .i64, [.int .i64 0], 8⟩),
  (3, ⟨.int .i64, [.int .i64 0], 8⟩),
  (4, ⟨.bool, [.bool false], 1⟩),
  (5, ⟨.int .u8, [.int .u8 0], 1⟩),
  (6, ⟨.int .u8, [.int .u8 0], 1⟩),
  (7, ⟨.struct [(0, 2), (1, 3), (2, 4), (3, 6)], [.int .i64 0, .int .i64 0, .bool false, .int .u8 0], 24⟩),
  (8, ⟨.struct [(0, 2), (1, 3), (2, 4), (3, 6)], [.int .i64 0, .int .i64 0, .bool false, .int .u8 0], 24⟩),
  (9, ⟨.str, [.string ⟨#[]⟩], 16⟩),
  (10, ⟨.str, [.string ⟨#[]⟩], 16⟩),
  (11, ⟨.str, [.string ⟨#[]⟩], 16⟩),
  (12, ⟨.int .u64, [.int .u64 0], 8⟩),
  (13, ⟨.struct [(0, 9), (1, 12)], [.string ⟨#[]⟩, .int .u64 0], 24⟩),
  (14, ⟨.struct [(0, 9), (1, 12)], [.string ⟨#[]⟩, .int .u64 0], 24⟩),
  (15, ⟨.other, [.pointer none], 8⟩),
  (16, ⟨.other, [.pointer none], 8⟩),
  (17, ⟨.other, [.pointer none], 8⟩),
  (18, ⟨.struct [(0, 17)], [.pointer none], 8⟩),
  (19, ⟨.struct [(0, 17)], [.pointer none], 8⟩),
  (20, ⟨.iface, [.nilIface], 16⟩),
  (21, ⟨.int .i32, [.int .i32 0], 4⟩),
  (22, ⟨.struct [(0, 3), (1, 3), (2, 3)], [.int .i64 0, .int .i64 0, .int .i64 0], 24⟩),
  (23, ⟨.struct [(0, 3), (1, 3), (2, 3)], [.int .i64 0, .int .i64 0, .int .i64 0], 24⟩),
  (24, ⟨.struct [(0, 23), (3, 3), (4, 3)], [.int .i64 0, .int .i64 0, .int .i64 0, .int .i64 0, .int .i64 0], 40⟩),
  (25, ⟨.struct [(0, 23), (3, 3), (4, 3)], [.int .i64 0, .int .i64 0, .int .i64 0, .int .i64 0, .int .i64 0], 40⟩),
  (26, ⟨.other, [.nilFunc], 8⟩),
  (27, ⟨.slice 3, [.slice none 0 0], 24⟩),
  (28, ⟨.other, [.nilFunc], 8⟩),
  (29, ⟨.other, [.nilFunc], 8⟩),
  (30, ⟨.other, [.nilFunc], 8⟩),
  (31, ⟨.other, [.nilFunc], 8⟩),
  (32, ⟨.other, [.nilFunc], 8⟩),
  (33, ⟨.struct [(0, 3), (1, 3), (2, 3), (3, 25)], [.int .i64 0, .int .i64 0, .int .i64 0, .int .i64 0, .int .i64 0, .int .i64 0, .int .i64 0, .int .i64 0], 64⟩),
  (34, ⟨.struct [(0, 3), (1, 3), (2, 3), (3, 25)], [.int .i64 0, .int .i64 0, .int .i64 0, .int .i64 0, .int .i64 0, .int .i64 0, .int .i64 0, .int .i64 0], 64⟩),
  (35, ⟨.other, [.nilFunc], 8⟩),
  (36, ⟨.other, [.nilFunc], 8⟩),
  (37, ⟨.int .i64, [.int .i64 0], 8⟩),
  (39, ⟨.other, [.nilFunc], 8⟩),
  (40, ⟨.other, [.nilFunc], 8⟩),
  (41, ⟨.other, [.nilFunc], 8⟩),
  (42, ⟨.struct [(0, 23), (3, 3), (4, 3)], [.int .i64 0, .int .i64 0, .int .i64 0, .int .i64 0, .int .i64 0], 40⟩),
  (43, ⟨.struct [(0, 23), (3, 3), (4, 3)], [.int .i64 0, .int .i64 0, .int .i64 0, .int .i64 0, .int .i64 0], 40⟩),
  (44, ⟨.other, [.nilFunc], 8⟩),
  (45, ⟨.other, [.nilFunc], 8⟩),
  (46, ⟨.other, [.nilFunc], 8⟩),
  (47, ⟨.slice 9, [.slice none 0 0], 24⟩),
  (49, ⟨.other, [.nilFunc], 8⟩),
  (50, ⟨.other, [.nilFunc], 8⟩),
  (51, ⟨.other, [.nilFunc], 8⟩),
  (52, ⟨.other, [.nilFunc], 8⟩),
  (53, ⟨.other, [.nilFunc], 8⟩),
  (54, ⟨.other, [.nilFunc], 8⟩),
  (55, ⟨.other, [.nilFunc], 8⟩),
  (56, ⟨.arr 2 3, [.int .i64 0, .int .i64 0], 16⟩),
  (57, ⟨.other, [.nilFunc], 8⟩),
  (58, ⟨.slice 64, [.slice none 0 0], 24⟩),
  (59, ⟨.slice 25, [.slice none 0 0], 24⟩),
  (60, ⟨.struct [(0, 34), (8, 58), (9, 4), (10, 59)], [.int .i64 0, .int .i64 0, .int .i64 0, .int .i64 0, .int .i64 0, .int .i64 0, .int .i64 0, .int .i64 0, .slice none 0 0, .bool false, .slice none 0 0], 120⟩),
  (61, ⟨.struct [(0, 34), (8, 58), (9, 4), (10, 59)], [.int .i64 0, .int .i64 0, .int .i64 0, .int .i64 0, .int .i64 0, .int .i64 0, .int .i64 0, .int .i64 0, .slice none 0 0, .bool false, .slice none 0 0], 120⟩),
  (62, ⟨.other, [.nilFunc], 8⟩),
  (63, ⟨.struct [(0, 43), (5, 3), (6, 3)], [.int .i64 0, .int .i64 0, .int .i64 0, .int .i64 0, .int .i64 0, .int .i64 0, .int .i64 0], 56⟩),
  (64, ⟨.struct [(0, 43), (5, 3), (6, 3)], [.int .i64 0, .int .i64 0, .int .i64 0, .int .i64 0, .int .i64 0, .int .i64 0, .int .i64 0], 56⟩),
  (65, ⟨.other, [.nilFunc], 8⟩),
  (66, ⟨.other, [.nilFunc], 8⟩),
  (67, ⟨.other, [.nilFunc], 8⟩),
  (68, ⟨.other, [.nilFunc], 8⟩),
  (69, ⟨.other, [.nilFunc], 8⟩),
  (70, ⟨.other, [.nilFunc], 8⟩),
  (71, ⟨.other, [.nilFunc], 8⟩),
  (72, ⟨.other, [.nilFunc], 8⟩),
  (73, ⟨.other, [.nilFunc], 8⟩),
  (74, ⟨.other, [.nilFunc], 8⟩),
  (75, ⟨.other, [.nilFunc], 8⟩),
  (76, ⟨.other, [.nilFunc], 8⟩),
  (77, ⟨.other, [.nilFunc], 8⟩),
  (78, ⟨.other, [.nilFunc], 8⟩),
  (79, ⟨.other, [.nilFunc], 8⟩),
  (80, ⟨.other, [.nilFunc], 8⟩),
  (81, ⟨.other, [.nilFunc], 8⟩),
  (82, ⟨.other, [.nilFunc], 8⟩),
  (83, ⟨.other, [.nilFunc], 8⟩),
  (84, ⟨.other, [.nilFunc], 8⟩),
  (85, ⟨.other, [.nilFunc], 8⟩),
  (86, ⟨.other, [.nilFunc], 8⟩),
  (87, ⟨.iface, [.nilIface], 16⟩),
  (88, ⟨.iface, [.nilIface], 16⟩),
  (90, ⟨.other, [.nilFunc], 8⟩),
  (91, ⟨.other, [.nilFunc], 8⟩),
  (92, ⟨.other, [.nilFunc], 8⟩),
  (93, ⟨.other, [.pointer none], 8⟩),
  (94, ⟨.slice 5, [.slice none 0 0], 24⟩),
  (95, ⟨.struct [(0, 93), (1, 94)], [.pointer none, .slice none 0 0], 32⟩),
  (96, ⟨.struct [(0, 93), (1, 94)], [.pointer none, .slice none 0 0], 32⟩),
  (97, ⟨.other, [.nilFunc], 8⟩),
  (98, ⟨.other, [.nilFunc], 8⟩),
  (99, ⟨.other, [.nilFunc], 8⟩),
  (100, ⟨.other, [.nilFunc], 8⟩),
  (101, ⟨.other, [.nilFunc], 8⟩),
  (102, ⟨.arr 24 5, [.int .u8 0, .int .u8 0, .int .u8 0, .int .u8 0, .int .u8 0, .int .u8 0, .int .u8 0, .int .u8 0, .int .u8 0, .int .u8 0, .int .u8 0, .int .u8 0, .int .u8 0, .int .u8 0, .int .u8 0, .int .u8 0, .int .u8 0, .int .u8 0, .int .u8 0, .int .u8 0, .int .u8 0, .int .u8 0, .int .u8 0, .int .u8 0], 24⟩),
  (103, ⟨.int .u64, [.int .u64 0], 8⟩),
  (104, ⟨.other, [.nilFunc], 8⟩),
  (105, ⟨.other, [.nilFunc], 8⟩),
  (107, ⟨.other, [.nilFunc], 8⟩),
  (108, ⟨.other, [.pointer none], 8⟩),
  (109, ⟨.other, [.nilFunc], 8⟩),
  (111, ⟨.other, [.nilFunc], 8⟩),
  (112, ⟨.other, [.nilFunc], 8⟩),
  (113, ⟨.int .i64, [.int .i64 0], 8⟩),
  (115, ⟨.other, [.nilFunc], 8⟩),
  (116, ⟨.other, [.pointer none], 8⟩),
  (117, ⟨.other, [.nilFunc], 8⟩),
  (118, ⟨.other, [.nilFunc], 8⟩),
  (119, ⟨.other, [.nilFunc], 8⟩),
  (120, ⟨.arr 20 103, [.int .u64 0, .int .u64 0, .int .u64 0, .int .u64 0, .int .u64 0, .int .u64 0, .int .u64 0, .int .u64 0, .int .u64 0, .int .u64 0, .int .u64 0, .int .u64 0, .int .u64 0, .int .u64 0, .int .u64 0, .int .u64 0, .int .u64 0, .int .u64 0, .int .u64 0, .int .u64 0], 160⟩),
  (121, ⟨.int .u32, [.int .u32 0], 4⟩),
  (122, ⟨.arr 65 5, [.int .u8 0, .int .u8 0, .int .u8 0, .int .u8 0, .int .u8 0, .int .u8 0, .int .u8 0, .int .u8 0, .int .u8 0, .int .u8 0, .int .u8 0, .int .u8 0, .int .u8 0, .int .u8 0, .int .u8 0, .int .u8 0, .int .u8 0, .int .u8 0, .int .u8 0, .int .u8 0, .int .u8 0, .int .u8 0, .int .u8 0, .int .u8 0, .int .u8 0, .int .u8 0, .int .u8 0, .int .u8 0, .int .u8 0, .int .u8 0, .int .u8 0, .int .u8 0, .int .u8 0, .int .u8 0, .int .u8 0, .int .u8 0, .int .u8 0, .int .u8 0, .int .u8 0, .int .u8 0, .int .u8 0, .int .u8 0, .int .u8 0, .int .u8 0, .int .u8 0, .int .u8 0, .int .u8 0, .int .u8 0, .int .u8 0, .int .u8 0, .int .u8 0, .int .u8 0, .int .u8 0, .int .u8 0, .int .u8 0, .int .u8 0, .int .u8 0, .int .u8 0, .int .u8 0, .int .u8 0, .int .u8 0, .int .u8 0, .int .u8 0, .int .u8 0, .int .u8 0], 65⟩),
  (123, ⟨.int .u64, [.int .u64 0], 8⟩),
  (124, ⟨.other, [.nilFunc], 8⟩),
  (125, ⟨.other, [.pointer none], 8⟩),
  (126, ⟨.other, [.nilFunc], 8⟩),
  (127, ⟨.other, [.nilFunc], 8⟩),
  (129, ⟨.other, [.nilFunc], 8⟩),
  (130, ⟨.other, [.nilFunc], 8⟩),
  (131, ⟨.struct [(0, 9), (1, 9), (2, 88)], [.string ⟨#[]⟩, .string ⟨#[]⟩, .nilIface], 48⟩),
  (132, ⟨.struct [(0, 9), (1, 9), (2, 88)], [.string ⟨#[]⟩, .string ⟨#[]⟩, .nilIface], 48⟩),
  (133, ⟨.other, [.nilFunc], 8⟩),
  (134, ⟨.other, [.nilFunc], 8⟩),
  (135, ⟨.arr 256 5, [.int .u8 0, .int .u8 0, .int .u8 0, .int .u8 0, .int .u8 0, .int .u8 0, .int .u8 0, .int .u8 0, .int .u8 0, .int .u8 0, .int .u8 0, .int .u8 0, .int .u8 0, .int .u8 0, .int .u8 0, .int .u8 0, .int .u8 0, .int .u8 0, .int .u8 0, .int .u8 0, .int .u8 0, .int .u8 0, .int .u8 0, .int .u8 0, .int .u8 0, .int .u8 0, .int .u8 0, .int .u8 0, .int .u8 0, .int .u8 0, .int .u8 0, .int .u8 0, .int .u8 0, .int .u8 0, .int .u8 0, .int .u8 0, .int .u8 0, .int .u8 0, .int .u8 0, .int .u8 0, .int .u8 0, .int .u8 0, .int .u8 0, .int .u8 0, .int .u8 0, .int .u8 0, .int .u8 0, .int .u8 0, .int .u8 0, .int .u8 0, .int .u8 0, .int .u8 0, .int .u8 0, .int .u8 0, .int .u8 0, .int .u8 0, .int .u8 0, .int .u8 0, .int .u8 0, .int .u8 0, .int .u8 0, .int .u8 0, .int .u8 0, .int .u8 0, .int .u8 0, .int .u8 0, .int .u8 0, .int .u8 0, .int .u8 0, .int .u8 0, .int .u8 0, .int .u8 0, .int .u8 0, .int .u8 0, .int .u8 0, .int .u8 0, .int .u8 0, .int .u8 0, .int .u8 0, .int .u8 0, .int .u8 0, .int .u8 0, .int .u8 0, .int .u8 0, .int .u8 0, .int .u8 0, .int .u8 0, .int .u8 0, .int .u8 0, .int .u8 0, .int .u8 0, .int .u8 0, .int .u8 0, .int .u8 0, .int .u8 0, .int .u8 0, .int .u8 0, .int .u8 0, .int .u8 0, .int .u8 0, .int .u8 0, .int .u8 0, .int .u8 0, .int .u8 0, .int .u8 0, .int .u8 0, .int .u8 0, .int .u8 0, .int .u8 0, .int .u8 0, .int .u8 0, .int .u8 0, .int .u8 0, .int .u8 0, .int .u8 0, .int .u8 0, .int .u8 0, .int .u8 0, .int .u8 0, .int .u8 0, .int .u8 0, .int .u8 0, .int .u8 0, .int .u8 0, .int .u8 0, .int .u8 0, .int .u8 0, .int .u8 0, .int .u8 0, .int .u8 0, .int .u8 0, .int .u8 0, .int .u8 0, .int .u8 0, .int .u8 0, .int .u8 0, .int .u8 0, .int .u8 0, .int .u8 0, .int .u8 0, .int .u8 0, .int .u8 0, .int .u8 0, .int .u8 0, .int .u8 0, .int .u8 0, .int .u8 0, .int .u8 0, .int .u8 0, .int .u8 0, .int .u8 0, .int .u8 0, .int .u8 0, .int .u8 0, .int .u8 0, .int .u8 0, .int .u8 0, .int .u8 0, .int .u8 0, .int .u8 0, .int .u8 0, .int .u8 0, .int .u8 0, .int .u8 0, .int .u8 0, .int .u8 0, .int .u8 0, .int .u8 0, .int .u8 0, .int .u8 0, .int .u8 0, .int .u8 0, .int .u8 0, .int .u8 0, .int .u8 0, .int .u8 0, .int .u8 0, .int .u8 0, .int .u8 0, .int .u8 0, .int .u8 0, .int .u8 0, .int .u8 0, .int .u8 0, .int .u8 0, .int .u8 0, .int .u8 0, .int .u8 0, .int .u8 0, .int .u8 0, .int .u8 0, .int .u8 0, .int .u8 0, .int .u8 0, .int .u8 0, .int .u8 0, .int .u8 0, .int .u8 0, .int .u8 0, .int .u8 0, .int .u8 0, .int .u8 0, .int .u8 0, .int .u8 0, .int .u8 0, .int .u8 0, .int .u8 0, .int .u8 0, .int .u8 0, .int .u8 0, .int .u8 0, .int .u8 0, .int .u8 0, .int .u8 0, .int .u8 0, .int .u8 0, .int .u8 0, .int .u8 0, .int .u8 0, .int .u8 0, .int .u8 0, .int .u8 0, .int .u8 0, .int .u8 0, .int .u8 0, .int .u8 0, .int .u8 0, .int .u8 0, .int .u8 0, .int .u8 0, .int .u8 0, .int .u8 0, .int .u8 0, .int .u8 0, .int .u8 0, .int .u8 0, .int .u8 0, .int .u8 0, .int .u8 0, .int .u8 0, .int .u8 0, .int .u8 0, .int .u8 0, .int .u8 0, .int .u8 0, .int .u8 0, .int .u8 0, .int .u8 0, .int .u8 0, .int .u8 0, .int .u8 0, .int .u8 0, .int .u8 0, .int .u8 0, .int .u8 0, .int .u8 0], 256⟩),
  (136, ⟨.struct [(0, 5), (1, 5)], [.int .u8 0, .int .u8 0], 2⟩),
  (137, ⟨.struct [(0, 5), (1, 5)], [.int .u8 0, .int .u8 0], 2⟩),
  (138, ⟨.arr 16 137, [.int .u8 0, .int .u8 0, .int .u8 0, .int .u8 0, .int .u8 0, .int .u8 0, .int .u8 0, .int .u8 0, .int .u8 0, .int .u8 0, .int .u8 0, .int .u8 0, .int .u8 0, .int .u8 0, .int .u8 0, .int .u8 0, .int .u8 0, .int .u8 0, .int .u8 0, .int .u8 0, .int .u8 0, .int .u8 0, .int .u8 0, .int .u8 0, .int .u8 0, .int .u8 0, .int .u8 0, .int .u8 0, .int .u8 0, .int .u8 0, .int .u8 0, .int .u8 0], 32⟩),
  (140, ⟨.other, [.nilFunc], 8⟩),
  (141, ⟨.other, [.nilFunc], 8⟩),
  (142, ⟨.other, [.nilFunc], 8⟩),
  (143, ⟨.other, [.pointer none], 8⟩),
  (144, ⟨.struct [(0, 9)], [.string ⟨#[]⟩], 16⟩),
  (145, ⟨.struct [(0, 9)], [.string ⟨#[]⟩], 16⟩),
  (146, ⟨.arr 32 5, [.int .u8 0, .int .u8 0, .int .u8 0, .int .u8 0, .int .u8 0, .int .u8 0, .int .u8 0, .int .u8 0, .int .u8 0, .int .u8 0, .int .u8 0, .int .u8 0, .int .u8 0, .int .u8 0, .int .u8 0, .int .u8 0, .int .u8 0, .int .u8 0, .int .u8 0, .int .u8 0, .int .u8 0, .int .u8 0, .int .u8 0, .int .u8 0, .int .u8 0, .int .u8 0, .int .u8 0, .int .u8 0, .int .u8 0, .int .u8 0, .int .u8 0, .int .u8 0], 32⟩),
  (147, ⟨.arr 64 5, [.int .u8 0, .int .u8 0, .int .u8 0, .int .u8 0, .int .u8 0, .int .u8 0, .int .u8 0, .int .u8 0, .int .u8 0, .int .u8 0, .int .u8 0, .int .u8 0, .int .u8 0, .int .u8 0, .int .u8 0, .int .u8 0, .int .u8 0, .int .u8 0, .int .u8 0, .int .u8 0, .int .u8 0, .int .u8 0, .int .u8 0, .int .u8 0, .int .u8 0, .int .u8 0, .int .u8 0, .int .u8 0, .int .u8 0, .int .u8 0, .int .u8 0, .int .u8 0, .int .u8 0, .int .u8 0, .int .u8 0, .int .u8 0, .int .u8 0, .int .u8 0, .int .u8 0, .int .u8 0, .int .u8 0, .int .u8 0, .int .u8 0, .int .u8 0, .int .u8 0, .int .u8 0, .int .u8 0, .int .u8 0, .int .u8 0, .int .u8 0, .int .u8 0, .int .u8 0, .int .u8 0, .int .u8 0, .int .u8 0, .int .u8 0, .int .u8 0, .int .u8 0, .int .u8 0, .int .u8 0, .int .u8 0, .int .u8 0, .int .u8 0, .int .u8 0], 64⟩),
  (148, ⟨.struct [(0, 17), (1, 17), (2, 17), (3, 9)], [.pointer none, .pointer none, .pointer none, .string ⟨#[]⟩], 40⟩),
  (149, ⟨.struct [(0, 17), (1, 17), (2, 17), (3, 9)], [.pointer none, .pointer none, .pointer none, .string ⟨#[]⟩], 40⟩),
  (150, ⟨.arr 0 16, [], 0⟩),
  (151, ⟨.struct [(0, 150)], [], 0⟩),
  (152, ⟨.struct [(0, 150)], [], 0⟩),
  (153, ⟨.other, [.nilFunc], 8⟩),
  (154, ⟨.int .u8, [.int .u8 0], 1⟩),
  (155, ⟨.int .u8, [.int .u8 0], 1⟩),
  (156, ⟨.other, [.nilFunc], 8⟩),
  (157, ⟨.int .i32, [.int .i32 0], 4⟩),
  (158, ⟨.int .i32, [.int .i32 0], 4⟩),
  (159, ⟨.struct [(0, 12), (1, 12), (2, 121), (3, 154), (4, 5), (5, 5), (6, 155), (7, 156), (8, 108), (9, 157), (10, 158)], [.int .u64 0, .int .u64 0, .int .u32 0, .int .u8 0, .int .u8 0, .int .u8 0, .int .u8 0, .nilFunc, .pointer none, .int .i32 0, .int .i32 0], 48⟩),
  (160, ⟨.struct [(0, 12), (1, 12), (2, 121), (3, 154), (4, 5), (5, 5), (6, 155), (7, 156), (8, 108), (9, 157), (10, 158)], [.int .u64 0, .int .u64 0, .int .u32 0, .int .u8 0, .int .u8 0, .int .u8 0, .int .u8 0, .nilFunc, .pointer none, .int .i32 0, .int .i32 0], 48⟩)]
set_option maxRecDepth 100000 in
theorem tab_ok : Tab.ok Tryd.prog tab :=
  Tab.ok_cons (by kernel_rfl) <|
  Tab.ok_cons (by kernel_rfl) <|
  Tab.ok_cons (by kernel_rfl) <|
  Tab.ok_cons (by kernel_rfl) <|
  Tab.ok_cons (by kernel_rfl) <|
  Tab.ok_cons (by kernel_rfl) <|
  Tab.ok_cons (by kernel_rfl) <|
  Tab.ok_cons (by kernel_rfl) <|
  Tab.ok_cons (by kernel_rfl) <|
  Tab.ok_cons (by kernel_rfl) <|
  Tab.ok_cons (by kernel_rfl) <|
  Tab.ok_cons (by kernel_rfl) <|
  Tab.ok_cons (by kernel_rfl) <|
  Tab.ok_cons (by kernel_rfl) <|
  Tab.ok_cons (by kernel_rfl) <|
  Tab.ok_cons (by kernel_rfl) <|
  Tab.ok_cons (by kernel_rfl) <|
  Tab.ok_cons (by kernel_rfl) <|
  Tab.ok_cons (by kernel_rfl) <|
  Tab.ok_cons (by kernel_rfl) <|
  Tab.ok_cons (by kernel_rfl) <|
  Tab.ok_cons (by kernel_rfl) <|
  Tab.ok_cons (by kernel_rfl) <|
  Tab.ok_cons (by kernel_rfl) <|
  Tab.ok_cons (by kernel_rfl) <|
  Tab.ok_cons (by kernel_rfl) <|
  Tab.ok_cons (by kernel_rfl) <|
  Tab.ok_cons (by kernel_rfl) <|
  Tab.ok_cons (by kernel_rfl) <|
  Tab.ok_cons (by kernel_rfl) <|
  Tab.ok_cons (by kernel_rfl) <|
  Tab.ok_cons (by kernel_rfl) <|
  Tab.ok_cons (by kernel_rfl) <|
  Tab.ok_cons (by kernel_rfl) <|
  Tab.ok_cons (by kernel_rfl) <|
  Tab.ok_cons (by kernel_rfl) <|
  Tab.ok_cons (by kernel_rfl) <|
  Tab.ok_cons (by kernel_rfl) <|
  Tab.ok_cons (by kernel_rfl) <|
  Tab.ok_cons (by kernel_rfl) <|
  Tab.ok_cons (by kernel_rfl) <|
  Tab.ok_cons (by kernel_rfl) <|
  Tab.ok_cons (by kernel_rfl) <|
  Tab.ok_cons (by kernel_rfl) <|
  Tab.ok_cons (by kernel_rfl) <|
  Tab.ok_cons (by kernel_rfl) <|
  Tab.ok_cons (by kernel_rfl) <|
  Tab.ok_cons (by kernel_rfl) <|
  Tab.ok_cons (by kernel_rfl) <|
  Tab.ok_cons (by kernel_rfl) <|
  Tab.ok_cons (by kernel_rfl) <|
  Tab.ok_cons (by kernel_rfl) <|
  Tab.ok_cons (by kernel_rfl) <|
  Tab.ok_cons (by kernel_rfl) <|
  Tab.ok_cons (by kernel_rfl) <|
  Tab.ok_cons (by kernel_rfl) <|
  Tab.ok_cons (by kernel_rfl) <|
  Tab.ok_cons (by kernel_rfl) <|
  Tab.ok_cons (by kernel_rfl) <|
  Tab.ok_cons (by kernel_rfl) <|
  Tab.ok_cons (by kernel_rfl) <|
  Tab.ok_cons (by kernel_rfl) <|
  Tab.ok_cons (by kernel_rfl) <|
  Tab.ok_cons (by kernel_rfl) <|
  Tab.ok_cons (by kernel_rfl) <|
  Tab.ok_cons (by kernel_rfl) <|
  Tab.ok_cons (by kernel_rfl) <|
  Tab.ok_cons (by kernel_rfl) <|
  Tab.ok_cons (by kernel_rfl) <|
  Tab.ok_cons (by kernel_rfl) <|
  Tab.ok_cons (by kernel_rfl) <|
  Tab.ok_cons (by kernel_rfl) <|
  Tab.ok_cons (by kernel_rfl) <|
  Tab.ok_cons (by kernel_rfl) <|
  Tab.ok_cons (by kernel_rfl) <|
  Tab.ok_cons (by kernel_rfl) <|
  Tab.ok_cons (by kernel_rfl) <|
  Tab.ok_cons (by kernel_rfl) <|
  Tab.ok_cons (by kernel_rfl) <|
  Tab.ok_cons (by kernel_rfl) <|
  Tab.ok_cons (by kernel_rfl) <|
  Tab.ok_cons (by kernel_rfl) <|
  Tab.ok_cons (by kernel_rfl) <|
  Tab.ok_cons (by kernel_rfl) <|
  Tab.ok_cons (by kernel_rfl) <|
  Tab.ok_cons (by kernel_rfl) <|
  Tab.ok_cons (by kernel_rfl) <|
  Tab.ok_cons (by kernel_rfl) <|
  Tab.ok_cons (by kernel_rfl) <|
  Tab.ok_cons (by kernel_rfl) <|
  Tab.ok_cons (by kernel_rfl) <|
  Tab.ok_cons (by kernel_rfl) <|
  Tab.ok_cons (by kernel_rfl) <|
  Tab.ok_cons (by kernel_rfl) <|
  Tab.ok_cons (by kernel_rfl) <|
  Tab.ok_cons (by kernel_rfl) <|
  Tab.ok_cons (by kernel_rfl) <|
  Tab.ok_cons (by kernel_rfl) <|
  Tab.ok_cons (by kernel_rfl) <|
  Tab.ok_cons (by kernel_rfl) <|
  Tab.ok_cons (by kernel_rfl) <|
  Tab.ok_cons (by kernel_rfl) <|
  Tab.ok_cons (by kernel_rfl) <|
  Tab.ok_cons (by kernel_rfl) <|
  Tab.ok_cons (by kernel_rfl) <|
  Tab.ok_cons (by kernel_rfl) <|
  Tab.ok_cons (by kernel_rfl) <|
  Tab.ok_cons (by kernel_rfl) <|
  Tab.ok_cons (by kernel_rfl) <|
  Tab.ok_cons (by kernel_rfl) <|
  Tab.ok_cons (by kernel_rfl) <|
  Tab.ok_cons (by kernel_rfl) <|
  Tab.ok_cons (by kernel_rfl) <|
  Tab.ok_cons (by kernel_rfl) <|
  Tab.ok_cons (by kernel_rfl) <|
  Tab.ok_cons (by kernel_rfl) <|
  Tab.ok_cons (by kernel_rfl) <|
  Tab.ok_cons (by kernel_rfl) <|
  Tab.ok_cons (by kernel_rfl) <|
  Tab.ok_cons (by kernel_rfl) <|
  Tab.ok_cons (by kernel_rfl) <|
  Tab.ok_cons (by kernel_rfl) <|
  Tab.ok_cons (by kernel_rfl) <|
  Tab.ok_cons (by kernel_rfl) <|
  Tab.ok_cons (by kernel_rfl) <|
  Tab.ok_cons (by kernel_rfl) <|
  Tab.ok_cons (by kernel_rfl) <|
  Tab.ok_cons (by kernel_rfl) <|
  Tab.ok_cons (by kernel_rfl) <|
  Tab.ok_cons (by kernel_rfl) <|
  Tab.ok_cons (by kernel_rfl) <|
  Tab.ok_cons (by kernel_rfl) <|
  Tab.ok_cons (by kernel_rfl) <|
  Tab.ok_cons (by kernel_rfl) <|
  Tab.ok_cons (by kernel_rfl) <|
  Tab.ok_cons (by kernel_rfl) <|
  Tab.ok_cons (by kernel_rfl) <|
  Tab.ok_cons (by kernel_rfl) <|
  Tab.ok_cons (by kernel_rfl) <|
  Tab.ok_cons (by kernel_rfl) <|
  Tab.ok_cons (by kernel_rfl) <|
  Tab.ok_cons (by kernel_rfl) <|
  Tab.ok_cons (by kernel_rfl) <|
  Tab.ok_cons (by kernel_rfl) <|
  Tab.ok_cons (by kernel_rfl) <|
  Tab.ok_cons (by kernel_rfl) <|
  Tab.ok_cons (by kernel_rfl) <|
  Tab.ok_cons (by kernel_rfl) <|
  Tab.ok_cons (by kernel_rfl) <|
  Tab.ok_cons (by kernel_rfl) <|
  Tab.ok_cons (by kernel_rfl) <|
  Tab.ok_cons (by kernel_rfl) <| Tab.ok_nil _
theorem zero_of {T : List (Nat × Te)} (h : (T.all fun x => x.2.z.all fun u => u.oneCell') = true) : zeroOk T := fun t e he u hu => by
  induction T with
  | nil => simp [Tab.get] at he
  | cons x r ih =>
    obtain ⟨i, e1⟩ := x
    simp only [List.all_cons, Bool.and_eq_true] at h
    unfold Tab.get at he
    split at he
    · cases he
      exact List.all_eq_true.1 h.1 u hu
    · exact ih h.2 he
theorem tab_z : zeroOk tab := zero_of (by kernel_rfl)
theorem mixed : Tryd.prog.follows .mixedOrders = true := by kernel_rfl
def ord3 (id : Nat) : Tr := match Nat.beq id 13 with | true => .q 0 0 (.q 1 0 (.q 3 3 (.q 4 0 (.alt 2 1 (.alt 5 1 (.alt 6 1 (.q 7 3 (.q 8 3 (.q 9 0 (.q 10 0 (.q 12 3 (.q 13 0 (.alt 11 1 (.alt 14 1 (.alt 15 1 (.q 16 3 (.q 17 3 (.q 18 3 (.alt 19 1 (.q 20 3 (.q 21 3 (.nil))) (.nil))))) (.nil)) (.nil)) (.nil)))))))) (.nil)) (.nil)) (.nil))))) | false => .nil
def ord5 (id : Nat) : Tr := match Nat.beq id 9 with | true => .q 0 3 (.q 1 3 (.q 2 3 (.q 3 0 (.q 5 3 (.q 6 3 (.q 7 3 (.q 8 0 (.alt 4 1 (.q 9 3 (.q 10 3 (.q 11 3 (.q 12 3 (.q 13 3 (.q 14 3 (.q 15 3 (.q 16 3 (.q 17 3 (.q 18 0 (.q 19 3 (.q 20 3 (.q 21 3 (.q 22 3 (.q 23 3 (.nil)))))))))))))))) (.nil))))))))) | false => match Nat.beq id 11 with | true => .q 0 3 (.q 1 3 (.q 2 3 (.q 3 0 (.q 5 3 (.q 6 3 (.q 7 3 (.q 8 0 (.alt 4 1 (.q 9 3 (.q 10 3 (.q 11 3 (.q 12 3 (.q 13 3 (.q 14 3 (.q 15 3 (.q 16 3 (.q 17 3 (.q 18 0 (.q 19 3 (.q 20 3 (.q 21 3 (.q 22 3 (.q 23 3 (.nil)))))))))))))))) (.nil))))))))) | false => .nil
def ord6 (id : Nat) : Tr := match Nat.beq id 14 with | true => .q 0 0 (.q 1 0 (.q 3 0 (.q 4 0 (.alt 2 1 (.alt 5 1 (.q 6 3 (.q 7 3 (.q 8 0 (.q 9 0 (.q 11 0 (.q 12 0 (.alt 10 1 (.alt 13 1 (.q 14 3 (.q 15 3 (.nil))) (.nil)) (.nil)))))))) (.nil)) (.nil))))) | false => match Nat.beq id 17 with | true => .q 0 0 (.q 1 0 (.q 3 3 (.q 4 0 (.alt 2 1 (.alt 5 1 (.alt 6 1 (.q 7 3 (.q 8 3 (.q 9 0 (.q 10 0 (.q 12 3 (.q 13 0 (.alt 11 1 (.alt 14 1 (.alt 15 1 (.q 16 3 (.q 17 3 (.q 18 3 (.alt 19 1 (.q 20 3 (.q 21 3 (.nil))) (.nil))))) (.nil)) (.nil)) (.nil)))))))) (.nil)) (.nil)) (.nil))))) | false => .nil
def ord8 (id : Nat) : Tr := match Nat.beq id 22 with | true => .q 0 0 (.q 2 0 (.alt 1 1 (.alt 3 1 (.q 4 3 (.q 5 3 (.q 6 0 (.q 8 0 (.alt 7 1 (.alt 9 1 (.q 10 3 (.q 11 3 (.q 12 3 (.q 13 0 (.q 15 0 (.alt 14 1 (.alt 16 1 (.q 17 3 (.q 18 3 (.q 19 3 (.q 20 0 (.q 22 0 (.alt 21 1 (.alt 23 1 (.q 24 3 (.q 25 3 (.q 26 3 (.alt 27 1 (.q 28 3 (.q 29 3 (.nil))) (.nil))))) (.nil)) (.nil))))))) (.nil)) (.nil))))))) (.nil)) (.nil)))))) (.nil)) (.nil))) | false => .nil
def ord9 (id : Nat) : Tr := match Nat.beq id 5 with | true => .q 0 0 (.q 2 0 (.q 5 0 (.q 6 0 (.q 7 3 (.alt 1 1 (.alt 3 1 (.q 4 3 (.q 8 3 (.q 9 3 (.q 10 0 (.q 12 0 (.q 15 0 (.q 16 0 (.q 17 3 (.alt 11 1 (.alt 13 1 (.q 14 3 (.q 18 3 (.q 19 3 (.q 20 3 (.alt 21 1 (.q 22 3 (.q 23 3 (.nil))) (.nil)))))) (.nil)) (.nil)))))))))) (.nil)) (.nil)))))) | false => .nil
def ord10 (id : Nat) : Tr := match Nat.beq id 4 with | true => .q 0 3 (.q 1 0 (.q 2 3 (.q 3 3 (.q 4 0 (.q 5 3 (.q 6 3 (.alt 7 1 (.q 8 3 (.q 9 3 (.alt 10 2 (.nil) (.nil)))) (.nil)))))))) | false => match Nat.beq id 9 with | true => .q 0 3 (.q 1 0 (.q 2 3 (.q 3 0 (.q 4 3 (.q 5 3 (.q 6 3 (.alt 7 1 (.q 8 3 (.q 9 3 (.alt 10 2 (.nil) (.nil)))) (.nil)))))))) | false => match Nat.beq id 11 with | true => .q 0 0 (.q 1 0 (.q 3 0 (.q 4 0 (.alt 2 1 (.alt 5 1 (.q 6 3 (.q 7 3 (.q 8 0 (.q 9 0 (.q 11 0 (.q 12 0 (.alt 10 1 (.alt 13 1 (.q 14 3 (.q 15 3 (.q 16 3 (.q 17 0 (.q 18 0 (.q 20 0 (.q 21 0 (.alt 19 1 (.alt 22 1 (.q 23 3 (.q 24 3 (.q 25 3 (.q 26 0 (.q 27 0 (.q 29 0 (.q 30 0 (.alt 28 1 (.alt 31 1 (.q 32 3 (.q 33 3 (.q 34 3 (.alt 35 1 (.q 36 3 (.q 37 3 (.nil))) (.nil))))) (.nil)) (.nil))))))))) (.nil)) (.nil))))))))) (.nil)) (.nil)))))))) (.nil)) (.nil))))) | false => .nil
def ord11 (id : Nat) : Tr := match Nat.beq id 4 with | true => .q 0 0 (.q 1 0 (.q 3 0 (.q 4 0 (.alt 2 1 (.alt 5 1 (.q 6 3 (.q 7 3 (.q 8 3 (.q 9 3 (.q 10 0 (.q 11 3 (.q 12 0 (.q 14 3 (.q 15 0 (.q 16 3 (.q 17 0 (.alt 13 1 (.alt 18 1 (.q 19 3 (.q 20 3 (.q 21 3 (.nil)))) (.nil)) (.nil))))))))))))) (.nil)) (.nil))))) | false => match Nat.beq id 10 with | true => .q 0 3 (.q 1 0 (.q 2 3 (.q 3 0 (.q 6 3 (.q 7 0 (.q 8 3 (.q 9 0 (.q 10 3 (.alt 4 1 (.q 5 3 (.q 11 3 (.q 12 3 (.q 13 0 (.q 14 0 (.alt 15 1 (.q 16 3 (.q 17 3 (.q 18 3 (.alt 19 1 (.q 20 3 (.q 21 3 (.nil))) (.nil))))) (.nil))))))) (.nil)))))))))) | false => .nil
def ord14 (id : Nat) : Tr := match Nat.beq id 1 with | true => .q 0 3 (.q 1 0 (.q 2 3 (.q 3 0 (.q 5 3 (.q 6 0 (.q 7 3 (.q 8 0 (.q 9 3 (.q 10 0 (.q 11 3 (.q 12 0 (.alt 4 1 (.alt 13 1 (.alt 14 1 (.alt 15 1 (.alt 16 1 (.q 17 3 (.nil)) (.nil)) (.nil)) (.nil)) (.nil)) (.alt 13 1 (.alt 4 1 (.alt 14 1 (.alt 15 1 (.alt 16 1 (.q 17 3 (.nil)) (.nil)) (.nil)) (.nil)) (.nil)) (.nil)))))))))))))) | false => .nil
def ord15 (id : Nat) : Tr := match Nat.beq id 4 with | true => .q 0 3 (.q 1 3 (.q 2 3 (.q 3 0 (.q 4 3 (.q 5 3 (.q 6 3 (.q 7 0 (.q 8 3 (.nil))))))))) | false => match Nat.beq id 6 with | true => .q 0 3 (.q 1 3 (.q 2 3 (.q 3 0 (.q 4 3 (.q 5 3 (.q 6 3 (.q 7 0 (.q 8 3 (.nil))))))))) | false => .nil
def ord18 (id : Nat) : Tr := match Nat.beq id 4 with | true => .q 1 3 (.q 2 0 (.q 6 3 (.q 7 0 (.alt 0 1 (.q 3 3 (.q 4 0 (.q 5 3 (.alt 8 1 (.q 9 3 (.q 10 3 (.nil))) (.nil))))) (.nil))))) | false => .nil
def ord19 (id : Nat) : Tr := match Nat.beq id 29 with | true => .q 0 3 (.q 1 3 (.q 2 0 (.q 3 3 (.q 4 3 (.q 5 0 (.q 6 3 (.q 7 3 (.q 8 0 (.q 9 3 (.q 10 3 (.q 11 3 (.q 12 0 (.q 13 3 (.q 14 3 (.q 15 0 (.q 16 3 (.q 17 3 (.alt 18 2 (.nil) (.nil))))))))))))))))))) | false => .nil
def ord20 (id : Nat) : Tr := match Nat.beq id 4 with | true => .q 1 3 (.q 2 0 (.q 6 3 (.q 7 0 (.alt 0 1 (.q 3 3 (.q 4 0 (.q 5 3 (.alt 8 1 (.q 9 3 (.q 10 3 (.nil))) (.nil))))) (.alt 8 1 (.alt 0 1 (.q 3 3 (.q 4 0 (.q 5 3 (.q 9 3 (.q 10 3 (.nil)))))) (.nil)) (.nil)))))) | false => .nil
def ord21 (id : Nat) : Tr := match Nat.beq id 5 with | true => .q 1 3 (.q 2 0 (.q 6 3 (.q 9 3 (.q 10 0 (.alt 0 1 (.q 3 3 (.q 4 0 (.q 5 3 (.q 7 3 (.q 8 3 (.alt 11 1 (.q 12 3 (.q 13 3 (.nil))) (.nil))))))) (.alt 11 1 (.alt 0 1 (.q 3 3 (.q 4 0 (.q 5 3 (.q 7 3 (.q 8 3 (.q 12 3 (.q 13 3 (.nil)))))))) (.nil)) (.nil))))))) | false => .nil
def ord24 (id : Nat) : Tr := match Nat.beq id 4 with | true => .q 0 3 (.q 1 3 (.q 2 3 (.q 3 3 (.q 4 3 (.q 5 3 (.q 8 3 (.q 9 3 (.q 10 3 (.alt 6 1 (.q 7 3 (.q 11 3 (.q 12 3 (.nil)))) (.nil)))))))))) | false => match Nat.beq id 7 with | true => .q 0 3 (.q 1 3 (.q 2 3 (.q 3 3 (.q 4 3 (.q 5 3 (.q 6 3 (.q 7 3 (.q 8 3 (.nil))))))))) | false => match Nat.beq id 9 with | true => .q 0 3 (.q 1 3 (.q 2 3 (.q 3 3 (.q 4 3 (.q 5 3 (.q 8 3 (.q 9 3 (.q 10 3 (.q 11 3 (.alt 6 1 (.q 7 3 (.q 12 3 (.q 13 3 (.nil)))) (.nil))))))))))) | false => .nil
def ord25 (id : Nat) : Tr := match Nat.beq id 11 with | true => .q 0 3 (.q 1 3 (.q 2 0 (.q 4 3 (.q 5 3 (.q 6 0 (.alt 3 1 (.alt 7 1 (.q 8 3 (.q 9 3 (.nil))) (.nil)) (.nil))))))) | false => match Nat.beq id 14 with | true => .q 0 3 (.q 1 3 (.q 2 0 (.q 3 3 (.q 4 3 (.q 5 0 (.q 6 3 (.q 7 3 (.q 8 0 (.q 9 3 (.q 10 3 (.q 11 3 (.q 12 0 (.q 13 3 (.alt 14 1 (.q 15 3 (.alt 16 2 (.nil) (.nil))) (.nil))))))))))))))) | false => .nil
def ord26 (id : Nat) : Tr := match Nat.beq id 1 with | true => .q 0 3 (.q 1 0 (.q 2 3 (.q 3 0 (.q 4 3 (.q 5 0 (.q 6 3 (.q 7 0 (.q 8 3 (.q 9 0 (.q 10 3 (.q 11 0 (.q 14 3 (.q 15 0 (.q 16 3 (.q 17 0 (.alt 12 1 (.alt 13 1 (.alt 18 1 (.alt 19 1 (.alt 20 1 (.q 21 3 (.nil)) (.nil)) (.nil)) (.nil)) (.nil)) (.nil))))))))))))))))) | false => .nil
def ord27 (id : Nat) : Tr := match Nat.beq id 1 with | true => .q 0 0 (.q 2 0 (.alt 1 1 (.alt 3 1 (.alt 4 1 (.q 5 3 (.nil)) (.nil)) (.nil)) (.nil))) | false => .nil
def ord29 (id : Nat) : Tr := match Nat.beq id 1 with | true => .q 0 3 (.q 1 0 (.q 2 3 (.q 3 0 (.q 5 3 (.q 6 0 (.q 7 3 (.q 8 0 (.q 9 3 (.q 10 0 (.q 11 3 (.q 12 0 (.alt 4 1 (.alt 13 1 (.alt 14 1 (.alt 15 1 (.alt 16 1 (.q 17 3 (.nil)) (.nil)) (.nil)) (.nil)) (.nil)) (.alt 13 1 (.alt 4 1 (.alt 14 1 (.alt 15 1 (.alt 16 1 (.q 17 3 (.nil)) (.nil)) (.nil)) (.nil)) (.nil)) (.nil)))))))))))))) | false => .nil
def ord30 (id : Nat) : Tr := match Nat.beq id 3 with | true => .q 1 3 (.q 2 0 (.q 6 3 (.q 7 3 (.q 8 0 (.q 9 3 (.q 10 3 (.q 11 0 (.q 12 3 (.q 13 3 (.q 14 0 (.q 19 3 (.q 20 0 (.alt 0 1 (.q 3 3 (.q 4 0 (.q 5 3 (.alt 15 1 (.alt 16 1 (.q 17 3 (.q 18 3 (.alt 21 1 (.q 22 3 (.q 23 3 (.nil))) (.nil)))) (.nil)) (.nil))))) (.alt 15 1 (.alt 0 1 (.q 3 3 (.q 4 0 (.q 5 3 (.alt 16 1 (.q 17 3 (.q 18 3 (.alt 21 1 (.q 22 3 (.q 23 3 (.nil))) (.nil)))) (.nil))))) (.nil)) (.nil))))))))))))))) | false => .nil
def ord31 (id : Nat) : Tr := match Nat.beq id 9 with | true => .q 0 3 (.q 1 3 (.q 2 0 (.q 3 3 (.q 4 3 (.q 5 0 (.alt 6 1 (.q 7 3 (.alt 8 1 (.alt 9 2 (.nil) (.nil)) (.nil))) (.alt 8 1 (.alt 6 1 (.q 7 3 (.alt 9 2 (.nil) (.nil))) (.nil)) (.nil)))))))) | false => match Nat.beq id 13 with | true => .q 0 3 (.q 1 0 (.q 2 3 (.q 3 3 (.q 4 3 (.q 5 3 (.q 6 3 (.q 7 0 (.q 8 3 (.q 9 3 (.q 10 3 (.q 11 3 (.q 12 3 (.q 13 0 (.q 15 3 (.q 16 3 (.q 17 3 (.q 18 3 (.q 19 0 (.alt 14 1 (.alt 20 1 (.q 21 3 (.alt 22 1 (.alt 23 1 (.q 24 3 (.alt 25 2 (.nil) (.nil))) (.nil)) (.nil))) (.nil)) (.nil)))))))))))))))))))) | false => .nil
def ord33 (id : Nat) : Tr := match Nat.beq id 1 with | true => .q 0 0 (.q 2 0 (.alt 1 1 (.alt 3 1 (.alt 4 1 (.q 5 3 (.nil)) (.nil)) (.nil)) (.nil))) | false => .nil
def ord36 (id : Nat) : Tr := match Nat.beq id 4 with | true => .q 0 3 (.q 1 3 (.q 2 3 (.q 3 0 (.q 4 3 (.q 5 3 (.q 6 3 (.q 7 3 (.q 8 0 (.alt 9 1 (.q 10 3 (.nil)) (.nil)))))))))) | false => .nil
def ord50 (id : Nat) : Tr := match Nat.beq id 1 with | true => .q 0 3 (.q 1 0 (.q 2 3 (.q 3 0 (.q 4 3 (.q 5 0 (.q 7 3 (.q 8 0 (.alt 6 1 (.alt 9 1 (.alt 10 1 (.q 11 3 (.nil)) (.nil)) (.nil)) (.alt 9 1 (.alt 6 1 (.alt 10 1 (.q 11 3 (.nil)) (.nil)) (.nil)) (.nil)))))))))) | false => .nil
def ord51 (id : Nat) : Tr := match Nat.beq id 4 with | true => .q 0 3 (.q 1 3 (.q 2 3 (.q 3 3 (.q 4 0 (.q 5 3 (.q 6 3 (.q 7 3 (.q 8 0 (.alt 9 1 (.q 10 3 (.nil)) (.nil)))))))))) | false => .nil
def ord52 (id : Nat) : Tr := match Nat.beq id 1 with | true => .q 0 3 (.q 1 0 (.q 2 3 (.q 3 0 (.q 5 3 (.q 6 0 (.q 7 3 (.q 8 0 (.alt 4 1 (.alt 9 1 (.alt 10 1 (.alt 11 1 (.q 12 3 (.nil)) (.nil)) (.nil)) (.nil)) (.nil))))))))) | false => .nil
def ord54 (id : Nat) : Tr := match Nat.beq id 5 with | true => .q 0 3 (.q 1 3 (.q 2 0 (.q 3 3 (.q 4 3 (.q 5 3 (.q 6 0 (.q 9 3 (.q 10 0 (.q 11 3 (.q 12 3 (.q 13 3 (.q 14 0 (.alt 7 1 (.alt 8 1 (.alt 15 1 (.alt 16 1 (.q 17 3 (.nil)) (.nil)) (.nil)) (.alt 15 1 (.alt 8 1 (.alt 16 1 (.q 17 3 (.nil)) (.nil)) (.nil)) (.nil))) (.alt 15 1 (.alt 7 1 (.alt 8 1 (.alt 16 1 (.q 17 3 (.nil)) (.nil)) (.nil)) (.nil)) (.nil))))))))))))))) | false => .nil
def ord63 (id : Nat) : Tr := match Nat.beq id 3 with | true => .q 0 3 (.q 1 3 (.q 2 3 (.q 3 0 (.q 5 3 (.q 6 3 (.q 7 3 (.q 8 0 (.q 9 3 (.q 11 3 (.alt 4 1 (.q 10 3 (.q 12 3 (.nil))) (.nil))))))))))) | false => .nil
def ord65 (id : Nat) : Tr := match Nat.beq id 1 with | true => .q 0 3 (.q 1 3 (.q 2 3 (.q 3 0 (.q 5 3 (.q 6 3 (.q 7 3 (.q 8 0 (.q 9 3 (.alt 4 1 (.alt 10 1 (.q 11 3 (.nil)) (.nil)) (.nil)))))))))) | false => .nil
def ord73 (id : Nat) : Tr := match Nat.beq id 7 with | true => .q 0 3 (.q 1 3 (.q 2 3 (.q 3 3 (.q 4 3 (.q 5 3 (.q 6 3 (.q 7 3 (.q 8 3 (.q 9 3 (.q 10 3 (.q 11 3 (.alt 12 2 (.q 13 3 (.alt 14 2 (.nil) (.nil))) (.nil))))))))))))) | false => match Nat.beq id 8 with | true => .q 0 3 (.q 1 3 (.q 2 3 (.q 3 3 (.q 4 3 (.q 5 3 (.q 6 3 (.q 7 3 (.q 8 3 (.q 9 3 (.q 10 3 (.q 11 3 (.alt 12 2 (.q 13 3 (.alt 14 2 (.nil) (.nil))) (.nil))))))))))))) | false => match Nat.beq id 9 with | true => .q 0 3 (.q 1 3 (.q 2 3 (.q 3 3 (.q 4 3 (.q 5 3 (.q 6 3 (.q 7 3 (.q 8 3 (.q 9 3 (.q 10 3 (.q 11 3 (.alt 12 2 (.q 13 3 (.alt 14 2 (.nil) (.nil))) (.nil))))))))))))) | false => match Nat.beq id 10 with | true => .q 0 3 (.q 1 3 (.q 2 3 (.q 3 3 (.q 4 3 (.q 5 3 (.q 6 3 (.q 7 3 (.q 8 3 (.q 9 3 (.q 10 3 (.q 11 3 (.alt 12 2 (.q 13 3 (.alt 14 2 (.nil) (.nil))) (.nil))))))))))))) | false => match Nat.beq id 17 with | true => .q 0 3 (.q 1 3 (.q 2 3 (.q 3 3 (.q 4 3 (.q 5 3 (.q 6 3 (.q 7 3 (.q 8 3 (.q 9 3 (.q 10 3 (.q 11 3 (.alt 12 2 (.q 13 3 (.alt 14 2 (.nil) (.nil))) (.nil))))))))))))) | false => match Nat.beq id 18 with | true => .q 0 3 (.q 1 3 (.q 2 3 (.q 3 3 (.q 4 3 (.q 5 3 (.q 6 3 (.q 7 3 (.q 8 3 (.q 9 3 (.q 10 3 (.q 11 3 (.alt 12 2 (.q 13 3 (.alt 14 2 (.nil) (.nil))) (.nil))))))))))))) | false => match Nat.beq id 23 with | true => .q 0 3 (.q 1 3 (.q 2 3 (.q 3 3 (.q 4 3 (.q 5 3 (.q 6 3 (.q 7 3 (.q 8 3 (.q 9 3 (.q 10 3 (.q 11 3 (.alt 12 2 (.q 13 3 (.alt 14 2 (.nil) (.nil))) (.nil))))))))))))) | false => .nil
def ord76 (id : Nat) : Tr := match Nat.beq id 0 with | true => .q 0 3 (.q 1 3 (.q 2 3 (.q 3 0 (.q 6 3 (.q 9 3 (.q 10 3 (.q 11 3 (.q 12 0 (.q 13 3 (.alt 4 1 (.q 5 3 (.q 7 3 (.alt 8 1 (.q 14 3 (.q 15 3 (.nil))) (.nil)))) (.nil))))))))))) | false => .nil
def ord82 (id : Nat) : Tr := match Nat.beq id 1 with | true => .q 0 3 (.q 1 3 (.q 3 0 (.alt 2 1 (.q 4 3 (.alt 5 1 (.q 6 3 (.nil)) (.nil))) (.nil)))) | false => .nil
def ord83 (id : Nat) : Tr := match Nat.beq id 1 with | true => .q 0 3 (.q 1 3 (.q 3 0 (.alt 2 1 (.q 4 3 (.alt 5 1 (.q 6 3 (.nil)) (.nil))) (.nil)))) | false => .nil
def ord0 (_ : Nat) : Tr := .nil
def xs0 (_ : Nat) : List Nat := []
theorem cx_ok (ord : Nat → Tr) (xs : Nat → List Nat) (np : Nat) : (⟨Tryd.prog, tab, ord, xs, np⟩ : Cx).ok := ⟨tab_ok, tab_z, mixed⟩
end Go.Proofs.YtinjgckpmblffaaDoor.Vm
