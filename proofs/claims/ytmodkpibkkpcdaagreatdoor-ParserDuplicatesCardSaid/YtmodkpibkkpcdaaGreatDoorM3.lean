/- Texts 3 of the proof: VmTab, VmU, Vrw, Vrs, Lf, Lg, L3, L4, L5, VmG, T1, VmR, L6, VmY, VmZ, L7, VmI, L8, VmW, T2, P1, Vrt, VmN, Cb, P2, T3, VmL, P3. -/
import Derived.Test.YtmodkpibkkpcdaaGreatDoorM2
import Derived.Test.YtmodkpibkkpcdaaGreatDoorRows
import Derived.LaidLaws
import Derived.LaidMore
import Derived.LaidHandle
import Derived.MakeChecks
import Derived.FnData
import Derived.Lib.LaidTab
import Derived.WideShapes
import Derived.OpenShut
import Derived.Handed
import Derived.Shelf.Vars
import Derived.Shelf.Pu.ToErrorRange
import Derived.Shelf.Lay
import Derived.Ground.MpProg
import Derived.Shelf.Pu.ToError
import Derived.Shelf.Pu.Lower
import Derived.RangeFuncFrom
import Derived.RangeFuncBound
import Derived.RangeFuncLeaves
import Derived.TacticsIn
import Derived.RangeFuncNested
import Derived.RangeFuncBox
import Derived.WalkKit
import Derived.OwnWalkIn
import Derived.TacticsInMore
import Derived.LoopNIn
import Derived.LoopIn
import Derived.Maps.AppendAt
import Derived.DataReads
import Derived.Shelf.Strings.BuilderF
import Derived.Lib.IndexMore
import Derived.Shelf.Strings.Search3
import Derived.Ground.NamesProg
namespace Go.Proofs.YtmodkpibkkpcdaaGreatDoor.Vm
set_option linter.unusedSimpArgs false
set_option linter.unusedVariables false
def tab : List (Nat × Te) := [
 (1, ⟨.func, [.nilFunc], 8⟩),
 (2, ⟨.int .i64, [.int .i64 0], 8⟩),
 (3, ⟨.int .i64, [.int .i64 0], 8⟩),
 (4, ⟨.bool, [.bool false], 1⟩),
 (5, ⟨.int .u8, [.int .u8 0], 1⟩),
 (6, ⟨.int .u8, [.int .u8 0], 1⟩),
 (7, ⟨.struct [(0, 2), (1, 3), (2, 4), (3, 6)], [.int .i64 0, .int .i64 0, .bool false, .int .u8 0], 24⟩),
 (8, ⟨.struct [(0, 2), (1, 3), (2, 4), (3, 6)], [.int .i64 0, .int .i64 0, .bool false, .int .u8 0], 24⟩),
 (9, ⟨.str, [.string ⟨#[]⟩], 16⟩),
 (10, ⟨.str, [.string ⟨#[]⟩], 16⟩),
 (11, ⟨.str, [.string ⟨#[]⟩], 16⟩),
 (12, ⟨.int .u64, [.int .u64 0], 8⟩),
 (13, ⟨.struct [(0, 9), (1, 12)], [.string ⟨#[]⟩, .int .u64 0], 24⟩),
 (14, ⟨.struct [(0, 9), (1, 12)], [.string ⟨#[]⟩, .int .u64 0], 24⟩),
 (15, ⟨.ptr 222, [.pointer none], 8⟩),
 (16, ⟨.ptr 225, [.pointer none], 8⟩),
 (17, ⟨.ptr 232, [.pointer none], 8⟩),
 (18, ⟨.struct [(0, 17)], [.pointer none], 8⟩),
 (19, ⟨.struct [(0, 17)], [.pointer none], 8⟩),
 (20, ⟨.iface, [.nilIface], 16⟩),
 (21, ⟨.int .i32, [.int .i32 0], 4⟩),
 (22, ⟨.slice 3, [.slice none 0 0], 24⟩),
 (23, ⟨.func, [.nilFunc], 8⟩),
 (24, ⟨.slice 9, [.slice none 0 0], 24⟩),
 (25, ⟨.slice 59, [.slice none 0 0], 24⟩),
 (26, ⟨.struct [(0, 24), (1, 24), (2, 25)], [.slice none 0 0, .slice none 0 0, .slice none 0 0], 72⟩),
 (27, ⟨.struct [(0, 24), (1, 24), (2, 25)], [.slice none 0 0, .slice none 0 0, .slice none 0 0], 72⟩),
 (28, ⟨.func, [.nilFunc], 8⟩),
 (29, ⟨.func, [.nilFunc], 8⟩),
 (30, ⟨.func, [.nilFunc], 8⟩),
 (31, ⟨.func, [.nilFunc], 8⟩),
 (32, ⟨.func, [.nilFunc], 8⟩),
 (33, ⟨.func, [.nilFunc], 8⟩),
 (34, ⟨.func, [.nilFunc], 8⟩),
 (35, ⟨.func, [.nilFunc], 8⟩),
 (36, ⟨.func, [.nilFunc], 8⟩),
 (37, ⟨.func, [.nilFunc], 8⟩),
 (38, ⟨.func, [.nilFunc], 8⟩),
 (39, ⟨.slice 41, [.slice none 0 0], 24⟩),
 (40, ⟨.struct [(0, 3), (1, 3), (2, 9), (3, 39)], [.int .i64 0, .int .i64 0, .string ⟨#[]⟩, .slice none 0 0], 56⟩),
 (41, ⟨.struct [(0, 3), (1, 3), (2, 9), (3, 39)], [.int .i64 0, .int .i64 0, .string ⟨#[]⟩, .slice none 0 0], 56⟩),
 (42, ⟨.func, [.nilFunc], 8⟩),
 (43, ⟨.func, [.nilFunc], 8⟩),
 (44, ⟨.func, [.nilFunc], 8⟩),
 (45, ⟨.func, [.nilFunc], 8⟩),
 (46, ⟨.func, [.nilFunc], 8⟩),
 (47, ⟨.int .i64, [.int .i64 0], 8⟩),
 (49, ⟨.func, [.nilFunc], 8⟩),
 (50, ⟨.slice 54, [.slice none 0 0], 24⟩),
 (52, ⟨.func, [.nilFunc], 8⟩),
 (53, ⟨.struct [(0, 3), (1, 3), (2, 9), (3, 3)], [.int .i64 0, .int .i64 0, .string ⟨#[]⟩, .int .i64 0], 40⟩),
 (54, ⟨.struct [(0, 3), (1, 3), (2, 9), (3, 3)], [.int .i64 0, .int .i64 0, .string ⟨#[]⟩, .int .i64 0], 40⟩),
 (55, ⟨.func, [.nilFunc], 8⟩),
 (56, ⟨.func, [.nilFunc], 8⟩),
 (57, ⟨.func, [.nilFunc], 8⟩),
 (58, ⟨.struct [(0, 3), (1, 41)], [.int .i64 0, .int .i64 0, .int .i64 0, .string ⟨#[]⟩, .slice none 0 0], 64⟩),
 (59, ⟨.struct [(0, 3), (1, 41)], [.int .i64 0, .int .i64 0, .int .i64 0, .string ⟨#[]⟩, .slice none 0 0], 64⟩),
 (60, ⟨.func, [.nilFunc], 8⟩),
 (61, ⟨.func, [.nilFunc], 8⟩),
 (62, ⟨.func, [.nilFunc], 8⟩),
 (63, ⟨.ptr 66, [.pointer none], 8⟩),
 (64, ⟨.func, [.nilFunc], 8⟩),
 (65, ⟨.struct [(0, 22), (1, 3)], [.slice none 0 0, .int .i64 0], 32⟩),
 (66, ⟨.struct [(0, 22), (1, 3)], [.slice none 0 0, .int .i64 0], 32⟩),
 (67, ⟨.func, [.nilFunc], 8⟩),
 (68, ⟨.func, [.nilFunc], 8⟩),
 (69, ⟨.slice 5, [.slice none 0 0], 24⟩),
 (70, ⟨.slice 73, [.slice none 0 0], 24⟩),
 (72, ⟨.func, [.nilFunc], 8⟩),
 (73, ⟨.struct [(0, 3), (1, 3), (2, 9), (3, 3)], [.int .i64 0, .int .i64 0, .string ⟨#[]⟩, .int .i64 0], 40⟩),
 (74, ⟨.func, [.nilFunc], 8⟩),
 (75, ⟨.func, [.nilFunc], 8⟩),
 (76, ⟨.func, [.nilFunc], 8⟩),
 (77, ⟨.func, [.nilFunc], 8⟩),
 (78, ⟨.func, [.nilFunc], 8⟩),
 (79, ⟨.struct [(0, 3), (1, 47)], [.int .i64 0, .int .i64 0], 16⟩),
 (80, ⟨.struct [(0, 3), (1, 47)], [.int .i64 0, .int .i64 0], 16⟩),
 (81, ⟨.ptr 83, [.pointer none], 8⟩),
 (82, ⟨.struct [(0, 50), (1, 24)], [.slice none 0 0, .slice none 0 0], 48⟩),
 (83, ⟨.struct [(0, 50), (1, 24)], [.slice none 0 0, .slice none 0 0], 48⟩),
 (84, ⟨.func, [.nilFunc], 8⟩),
 (85, ⟨.func, [.nilFunc], 8⟩),
 (86, ⟨.func, [.nilFunc], 8⟩),
 (87, ⟨.func, [.nilFunc], 8⟩),
 (88, ⟨.struct [(0, 3), (1, 47)], [.int .i64 0, .int .i64 0], 16⟩),
 (89, ⟨.struct [(0, 3), (1, 47)], [.int .i64 0, .int .i64 0], 16⟩),
 (90, ⟨.ptr 92, [.pointer none], 8⟩),
 (91, ⟨.struct [(0, 90), (1, 69)], [.pointer none, .slice none 0 0], 32⟩),
 (92, ⟨.struct [(0, 90), (1, 69)], [.pointer none, .slice none 0 0], 32⟩),
 (93, ⟨.struct [(0, 92)], [.pointer none, .slice none 0 0], 32⟩),
 (94, ⟨.struct [(0, 92)], [.pointer none, .slice none 0 0], 32⟩),
 (95, ⟨.slice 24, [.slice none 0 0], 24⟩),
 (96, ⟨.func, [.nilFunc], 8⟩),
 (97, ⟨.func, [.nilFunc], 8⟩),
 (98, ⟨.func, [.nilFunc], 8⟩),
 (99, ⟨.func, [.nilFunc], 8⟩),
 (100, ⟨.func, [.nilFunc], 8⟩),
 (101, ⟨.func, [.nilFunc], 8⟩),
 (102, ⟨.func, [.nilFunc], 8⟩),
 (103, ⟨.func, [.nilFunc], 8⟩),
 (104, ⟨.ptr 106, [.pointer none], 8⟩),
 (105, ⟨.struct [(0, 70), (1, 3), (2, 3), (3, 47), (4, 24)], [.slice none 0 0, .int .i64 0, .int .i64 0, .int .i64 0, .slice none 0 0], 72⟩),
 (106, ⟨.struct [(0, 70), (1, 3), (2, 3), (3, 47), (4, 24)], [.slice none 0 0, .int .i64 0, .int .i64 0, .int .i64 0, .slice none 0 0], 72⟩),
 (107, ⟨.func, [.nilFunc], 8⟩),
 (108, ⟨.func, [.nilFunc], 8⟩),
 (109, ⟨.func, [.nilFunc], 8⟩),
 (110, ⟨.func, [.nilFunc], 8⟩),
 (111, ⟨.func, [.nilFunc], 8⟩),
 (113, ⟨.func, [.nilFunc], 8⟩),
 (114, ⟨.map 3 59, [.map none], 8⟩),
 (115, ⟨.func, [.nilFunc], 8⟩),
 (116, ⟨.func, [.nilFunc], 8⟩),
 (117, ⟨.func, [.nilFunc], 8⟩),
 (118, ⟨.func, [.nilFunc], 8⟩),
 (119, ⟨.func, [.nilFunc], 8⟩),
 (120, ⟨.int .u8, [.int .u8 0], 1⟩),
 (121, ⟨.arr 256 120, [.int .u8 0, .int .u8 0, .int .u8 0, .int .u8 0, .int .u8 0, .int .u8 0, .int .u8 0, .int .u8 0, .int .u8 0, .int .u8 0, .int .u8 0, .int .u8 0, .int .u8 0, .int .u8 0, .int .u8 0, .int .u8 0, .int .u8 0, .int .u8 0, .int .u8 0, .int .u8 0, .int .u8 0, .int .u8 0, .int .u8 0, .int .u8 0, .int .u8 0, .int .u8 0, .int .u8 0, .int .u8 0, .int .u8 0, .int .u8 0, .int .u8 0, .int .u8 0, .int .u8 0, .int .u8 0, .int .u8 0, .int .u8 0, .int .u8 0, .int .u8 0, .int .u8 0, .int .u8 0, .int .u8 0, .int .u8 0, .int .u8 0, .int .u8 0, .int .u8 0, .int .u8 0, .int .u8 0, .int .u8 0, .int .u8 0, .int .u8 0, .int .u8 0, .int .u8 0, .int .u8 0, .int .u8 0, .int .u8 0, .int .u8 0, .int .u8 0, .int .u8 0, .int .u8 0, .int .u8 0, .int .u8 0, .int .u8 0, .int .u8 0, .int .u8 0, .int .u8 0, .int .u8 0, .int .u8 0, .int .u8 0, .int .u8 0, .int .u8 0, .int .u8 0, .int .u8 0, .int .u8 0, .int .u8 0, .int .u8 0, .int .u8 0, .int .u8 0, .int .u8 0, .int .u8 0, .int .u8 0, .int .u8 0, .int .u8 0, .int .u8 0, .int .u8 0, .int .u8 0, .int .u8 0, .int .u8 0, .int .u8 0, .int .u8 0, .int .u8 0, .int .u8 0, .int .u8 0, .int .u8 0, .int .u8 0, .int .u8 0, .int .u8 0, .int .u8 0, .int .u8 0, .int .u8 0, .int .u8 0, .int .u8 0, .int .u8 0, .int .u8 0, .int .u8 0, .int .u8 0, .int .u8 0, .int .u8 0, .int .u8 0, .int .u8 0, .int .u8 0, .int .u8 0, .int .u8 0, .int .u8 0, .int .u8 0, .int .u8 0, .int .u8 0, .int .u8 0, .int .u8 0, .int .u8 0, .int .u8 0, .int .u8 0, .int .u8 0, .int .u8 0, .int .u8 0, .int .u8 0, .int .u8 0, .int .u8 0, .int .u8 0, .int .u8 0, .int .u8 0, .int .u8 0, .int .u8 0, .int .u8 0, .int .u8 0, .int .u8 0, .int .u8 0, .int .u8 0, .int .u8 0, .int .u8 0, .int .u8 0, .int .u8 0, .int .u8 0, .int .u8 0, .int .u8 0, .int .u8 0, .int .u8 0, .int .u8 0, .int .u8 0, .int .u8 0, .int .u8 0, .int .u8 0, .int .u8 0, .int .u8 0, .int .u8 0, .int .u8 0, .int .u8 0, .int .u8 0, .int .u8 0, .int .u8 0, .int .u8 0, .int .u8 0, .int .u8 0, .int .u8 0, .int .u8 0, .int .u8 0, .int .u8 0, .int .u8 0, .int .u8 0, .int .u8 0, .int .u8 0, .int .u8 0, .int .u8 0, .int .u8 0, .int .u8 0, .int .u8 0, .int .u8 0, .int .u8 0, .int .u8 0, .int .u8 0, .int .u8 0, .int .u8 0, .int .u8 0, .int .u8 0, .int .u8 0, .int .u8 0, .int .u8 0, .int .u8 0, .int .u8 0, .int .u8 0, .int .u8 0, .int .u8 0, .int .u8 0, .int .u8 0, .int .u8 0, .int .u8 0, .int .u8 0, .int .u8 0, .int .u8 0, .int .u8 0, .int .u8 0, .int .u8 0, .int .u8 0, .int .u8 0, .int .u8 0, .int .u8 0, .int .u8 0, .int .u8 0, .int .u8 0, .int .u8 0, .int .u8 0, .int .u8 0, .int .u8 0, .int .u8 0, .int .u8 0, .int .u8 0, .int .u8 0, .int .u8 0, .int .u8 0, .int .u8 0, .int .u8 0, .int .u8 0, .int .u8 0, .int .u8 0, .int .u8 0, .int .u8 0, .int .u8 0, .int .u8 0, .int .u8 0, .int .u8 0, .int .u8 0, .int .u8 0, .int .u8 0, .int .u8 0, .int .u8 0, .int .u8 0, .int .u8 0, .int .u8 0, .int .u8 0, .int .u8 0, .int .u8 0, .int .u8 0, .int .u8 0, .int .u8 0, .int .u8 0, .int .u8 0, .int .u8 0, .int .u8 0, .int .u8 0, .int .u8 0, .int .u8 0, .int .u8 0, .int .u8 0, .int .u8 0, .int .u8 0, .int .u8 0, .int .u8 0], 256⟩),
 (122, ⟨.func, [.nilFunc], 8⟩),
 (123, ⟨.func, [.nilFunc], 8⟩),
 (124, ⟨.func, [.nilFunc], 8⟩),
 (125, ⟨.func, [.nilFunc], 8⟩),
 (126, ⟨.func, [.nilFunc], 8⟩),
 (127, ⟨.func, [.nilFunc], 8⟩),
 (128, ⟨.int .u64, [.int .u64 0], 8⟩),
 (129, ⟨.iface, [.nilIface], 16⟩),
 (130, ⟨.iface, [.nilIface], 16⟩),
 (132, ⟨.func, [.nilFunc], 8⟩),
 (133, ⟨.func, [.nilFunc], 8⟩),
 (134, ⟨.ptr 94, [.pointer none], 8⟩),
 (135, ⟨.func, [.nilFunc], 8⟩),
 (136, ⟨.func, [.nilFunc], 8⟩),
 (138, ⟨.func, [.nilFunc], 8⟩),
 (139, ⟨.func, [.nilFunc], 8⟩),
 (140, ⟨.ptr 5, [.pointer none], 8⟩),
 (141, ⟨.func, [.nilFunc], 8⟩),
 (142, ⟨.func, [.nilFunc], 8⟩),
 (143, ⟨.func, [.nilFunc], 8⟩),
 (144, ⟨.func, [.nilFunc], 8⟩),
 (145, ⟨.func, [.nilFunc], 8⟩),
 (147, ⟨.func, [.nilFunc], 8⟩),
 (148, ⟨.func, [.nilFunc], 8⟩),
 (149, ⟨.func, [.nilFunc], 8⟩),
 (150, ⟨.func, [.nilFunc], 8⟩),
 (151, ⟨.func, [.nilFunc], 8⟩),
 (152, ⟨.func, [.nilFunc], 8⟩),
 (153, ⟨.func, [.nilFunc], 8⟩),
 (154, ⟨.func, [.nilFunc], 8⟩),
 (155, ⟨.func, [.nilFunc], 8⟩),
 (156, ⟨.func, [.nilFunc], 8⟩),
 (157, ⟨.func, [.nilFunc], 8⟩),
 (158, ⟨.map 9 157, [.map none], 8⟩),
 (159, ⟨.func, [.nilFunc], 8⟩),
 (160, ⟨.func, [.nilFunc], 8⟩),
 (161, ⟨.func, [.nilFunc], 8⟩),
 (162, ⟨.func, [.nilFunc], 8⟩),
 (163, ⟨.int .u64, [.int .u64 0], 8⟩),
 (164, ⟨.int .i64, [.int .i64 0], 8⟩),
 (165, ⟨.func, [.nilFunc], 8⟩),
 (166, ⟨.ptr 196, [.pointer none], 8⟩),
 (167, ⟨.func, [.nilFunc], 8⟩),
 (168, ⟨.func, [.nilFunc], 8⟩),
 (169, ⟨.other, [.pointer none], 8⟩),
 (170, ⟨.func, [.nilFunc], 8⟩),
 (171, ⟨.func, [.nilFunc], 8⟩),
 (172, ⟨.arr 24 5, [.int .u8 0, .int .u8 0, .int .u8 0, .int .u8 0, .int .u8 0, .int .u8 0, .int .u8 0, .int .u8 0, .int .u8 0, .int .u8 0, .int .u8 0, .int .u8 0, .int .u8 0, .int .u8 0, .int .u8 0, .int .u8 0, .int .u8 0, .int .u8 0, .int .u8 0, .int .u8 0, .int .u8 0, .int .u8 0, .int .u8 0, .int .u8 0], 24⟩),
 (173, ⟨.func, [.nilFunc], 8⟩),
 (174, ⟨.func, [.nilFunc], 8⟩),
 (176, ⟨.func, [.nilFunc], 8⟩),
 (177, ⟨.func, [.nilFunc], 8⟩),
 (178, ⟨.func, [.nilFunc], 8⟩),
 (179, ⟨.func, [.nilFunc], 8⟩),
 (180, ⟨.func, [.nilFunc], 8⟩),
 (181, ⟨.func, [.nilFunc], 8⟩),
 (182, ⟨.func, [.nilFunc], 8⟩),
 (183, ⟨.func, [.nilFunc], 8⟩),
 (184, ⟨.int .i64, [.int .i64 0], 8⟩),
 (186, ⟨.func, [.nilFunc], 8⟩),
 (187, ⟨.func, [.nilFunc], 8⟩),
 (188, ⟨.func, [.nilFunc], 8⟩),
 (189, ⟨.func, [.nilFunc], 8⟩),
 (191, ⟨.func, [.nilFunc], 8⟩),
 (192, ⟨.func, [.nilFunc], 8⟩),
 (193, ⟨.int .u32, [.int .u32 0], 4⟩),
 (194, ⟨.func, [.nilFunc], 8⟩),
 (195, ⟨.struct [(0, 9), (1, 9), (2, 130)], [.string ⟨#[]⟩, .string ⟨#[]⟩, .nilIface], 48⟩),
 (196, ⟨.struct [(0, 9), (1, 9), (2, 130)], [.string ⟨#[]⟩, .string ⟨#[]⟩, .nilIface], 48⟩),
 (197, ⟨.func, [.nilFunc], 8⟩),
 (198, ⟨.func, [.nilFunc], 8⟩),
 (199, ⟨.arr 20 128, [.int .u64 0, .int .u64 0, .int .u64 0, .int .u64 0, .int .u64 0, .int .u64 0, .int .u64 0, .int .u64 0, .int .u64 0, .int .u64 0, .int .u64 0, .int .u64 0, .int .u64 0, .int .u64 0, .int .u64 0, .int .u64 0, .int .u64 0, .int .u64 0, .int .u64 0, .int .u64 0], 160⟩),
 (200, ⟨.arr 65 5, [.int .u8 0, .int .u8 0, .int .u8 0, .int .u8 0, .int .u8 0, .int .u8 0, .int .u8 0, .int .u8 0, .int .u8 0, .int .u8 0, .int .u8 0, .int .u8 0, .int .u8 0, .int .u8 0, .int .u8 0, .int .u8 0, .int .u8 0, .int .u8 0, .int .u8 0, .int .u8 0, .int .u8 0, .int .u8 0, .int .u8 0, .int .u8 0, .int .u8 0, .int .u8 0, .int .u8 0, .int .u8 0, .int .u8 0, .int .u8 0, .int .u8 0, .int .u8 0, .int .u8 0, .int .u8 0, .int .u8 0, .int .u8 0, .int .u8 0, .int .u8 0, .int .u8 0, .int .u8 0, .int .u8 0, .int .u8 0, .int .u8 0, .int .u8 0, .int .u8 0, .int .u8 0, .int .u8 0, .int .u8 0, .int .u8 0, .int .u8 0, .int .u8 0, .int .u8 0, .int .u8 0, .int .u8 0, .int .u8 0, .int .u8 0, .int .u8 0, .int .u8 0, .int .u8 0, .int .u8 0, .int .u8 0, .int .u8 0, .int .u8 0, .int .u8 0, .int .u8 0], 65⟩),
 (201, ⟨.func, [.nilFunc], 8⟩),
 (202, ⟨.int .u64, [.int .u64 0], 8⟩),
 (203, ⟨.func, [.nilFunc], 8⟩),
 (204, ⟨.func, [.nilFunc], 8⟩),
 (205, ⟨.func, [.nilFunc], 8⟩),
 (206, ⟨.ptr 3, [.pointer none], 8⟩),
 (207, ⟨.func, [.nilFunc], 8⟩),
 (208, ⟨.ptr 210, [.pointer none], 8⟩),
 (209, ⟨.struct [(0, 9)], [.string ⟨#[]⟩], 16⟩),
 (210, ⟨.struct [(0, 9)], [.string ⟨#[]⟩], 16⟩),
 (211, ⟨.func, [.nilFunc], 8⟩),
 (212, ⟨.func, [.nilFunc], 8⟩),
 (213, ⟨.func, [.nilFunc], 8⟩),
 (214, ⟨.ptr 202, [.pointer none], 8⟩),
 (216, ⟨.func, [.nilFunc], 8⟩),
 (217, ⟨.arr 32 5, [.int .u8 0, .int .u8 0, .int .u8 0, .int .u8 0, .int .u8 0, .int .u8 0, .int .u8 0, .int .u8 0, .int .u8 0, .int .u8 0, .int .u8 0, .int .u8 0, .int .u8 0, .int .u8 0, .int .u8 0, .int .u8 0, .int .u8 0, .int .u8 0, .int .u8 0, .int .u8 0, .int .u8 0, .int .u8 0, .int .u8 0, .int .u8 0, .int .u8 0, .int .u8 0, .int .u8 0, .int .u8 0, .int .u8 0, .int .u8 0, .int .u8 0, .int .u8 0], 32⟩),
 (218, ⟨.arr 64 5, [.int .u8 0, .int .u8 0, .int .u8 0, .int .u8 0, .int .u8 0, .int .u8 0, .int .u8 0, .int .u8 0, .int .u8 0, .int .u8 0, .int .u8 0, .int .u8 0, .int .u8 0, .int .u8 0, .int .u8 0, .int .u8 0, .int .u8 0, .int .u8 0, .int .u8 0, .int .u8 0, .int .u8 0, .int .u8 0, .int .u8 0, .int .u8 0, .int .u8 0, .int .u8 0, .int .u8 0, .int .u8 0, .int .u8 0, .int .u8 0, .int .u8 0, .int .u8 0, .int .u8 0, .int .u8 0, .int .u8 0, .int .u8 0, .int .u8 0, .int .u8 0, .int .u8 0, .int .u8 0, .int .u8 0, .int .u8 0, .int .u8 0, .int .u8 0, .int .u8 0, .int .u8 0, .int .u8 0, .int .u8 0, .int .u8 0, .int .u8 0, .int .u8 0, .int .u8 0, .int .u8 0, .int .u8 0, .int .u8 0, .int .u8 0, .int .u8 0, .int .u8 0, .int .u8 0, .int .u8 0, .int .u8 0, .int .u8 0, .int .u8 0, .int .u8 0], 64⟩),
 (220, ⟨.func, [.nilFunc], 8⟩),
 (221, ⟨.struct [(0, 17), (1, 17), (2, 17), (3, 9)], [.pointer none, .pointer none, .pointer none, .string ⟨#[]⟩], 40⟩),
 (222, ⟨.struct [(0, 17), (1, 17), (2, 17), (3, 9)], [.pointer none, .pointer none, .pointer none, .string ⟨#[]⟩], 40⟩),
 (223, ⟨.arr 0 16, [], 0⟩),
 (224, ⟨.struct [(0, 223)], [], 0⟩),
 (225, ⟨.struct [(0, 223)], [], 0⟩),
 (226, ⟨.int .u8, [.int .u8 0], 1⟩),
 (227, ⟨.int .u8, [.int .u8 0], 1⟩),
 (228, ⟨.func, [.nilFunc], 8⟩),
 (229, ⟨.int .i32, [.int .i32 0], 4⟩),
 (230, ⟨.int .i32, [.int .i32 0], 4⟩),
 (231, ⟨.struct [(0, 12), (1, 12), (2, 193), (3, 226), (4, 5), (5, 5), (6, 227), (7, 228), (8, 140), (9, 229), (10, 230)], [.int .u64 0, .int .u64 0, .int .u32 0, .int .u8 0, .int .u8 0, .int .u8 0, .int .u8 0, .nilFunc, .pointer none, .int .i32 0, .int .i32 0], 48⟩),
 (232, ⟨.struct [(0, 12), (1, 12), (2, 193), (3, 226), (4, 5), (5, 5), (6, 227), (7, 228), (8, 140), (9, 229), (10, 230)], [.int .u64 0, .int .u64 0, .int .u32 0, .int .u8 0, .int .u8 0, .int .u8 0, .int .u8 0, .nilFunc, .pointer none, .int .i32 0, .int .i32 0], 48⟩)]
set_option maxRecDepth 100000 in
theorem jlJ : Tab.ok Tryz.prog tab :=
 Tab.ok_cons (by kernel_rfl) <|
 Tab.ok_cons (by kernel_rfl) <|
 Tab.ok_cons (by kernel_rfl) <|
 Tab.ok_cons (by kernel_rfl) <|
 Tab.ok_cons (by kernel_rfl) <|
 Tab.ok_cons (by kernel_rfl) <|
 Tab.ok_cons (by kernel_rfl) <|
 Tab.ok_cons (by kernel_rfl) <|
 Tab.ok_cons (by kernel_rfl) <|
 Tab.ok_cons (by kernel_rfl) <|
 Tab.ok_cons (by kernel_rfl) <|
 Tab.ok_cons (by kernel_rfl) <|
 Tab.ok_cons (by kernel_rfl) <|
 Tab.ok_cons (by kernel_rfl) <|
 Tab.ok_cons (by kernel_rfl) <|
 Tab.ok_cons (by kernel_rfl) <|
 Tab.ok_cons (by kernel_rfl) <|
 Tab.ok_cons (by kernel_rfl) <|
 Tab.ok_cons (by kernel_rfl) <|
 Tab.ok_cons (by kernel_rfl) <|
 Tab.ok_cons (by kernel_rfl) <|
 Tab.ok_cons (by kernel_rfl) <|
 Tab.ok_cons (by kernel_rfl) <|
 Tab.ok_cons (by kernel_rfl) <|
 Tab.ok_cons (by kernel_rfl) <|
 Tab.ok_cons (by kernel_rfl) <|
 Tab.ok_cons (by kernel_rfl) <|
 Tab.ok_cons (by kernel_rfl) <|
 Tab.ok_cons (by kernel_rfl) <|
 Tab.ok_cons (by kernel_rfl) <|
 Tab.ok_cons (by kernel_rfl) <|
 Tab.ok_cons (by kernel_rfl) <|
 Tab.ok_cons (by kernel_rfl) <|
 Tab.ok_cons (by kernel_rfl) <|
 Tab.ok_cons (by kernel_rfl) <|
 Tab.ok_cons (by kernel_rfl) <|
 Tab.ok_cons (by kernel_rfl) <|
 Tab.ok_cons (by kernel_rfl) <|
 Tab.ok_cons (by kernel_rfl) <|
 Tab.ok_cons (by kernel_rfl) <|
 Tab.ok_cons (by kernel_rfl) <|
 Tab.ok_cons (by kernel_rfl) <|
 Tab.ok_cons (by kernel_rfl) <|
 Tab.ok_cons (by kernel_rfl) <|
 Tab.ok_cons (by kernel_rfl) <|
 Tab.ok_cons (by kernel_rfl) <|
 Tab.ok_cons (by kernel_rfl) <|
 Tab.ok_cons (by kernel_rfl) <|
 Tab.ok_cons (by kernel_rfl) <|
 Tab.ok_cons (by kernel_rfl) <|
 Tab.ok_cons (by kernel_rfl) <|
 Tab.ok_cons (by kernel_rfl) <|
 Tab.ok_cons (by kernel_rfl) <|
 Tab.ok_cons (by kernel_rfl) <|
 Tab.ok_cons (by kernel_rfl) <|
 Tab.ok_cons (by kernel_rfl) <|
 Tab.ok_cons (by kernel_rfl) <|
 Tab.ok_cons (by kernel_rfl) <|
 Tab.ok_cons (by kernel_rfl) <|
 Tab.ok_cons (by kernel_rfl) <|
 Tab.ok_cons (by kernel_rfl) <|
 Tab.ok_cons (by kernel_rfl) <|
 Tab.ok_cons (by kernel_rfl) <|
 Tab.ok_cons (by kernel_rfl) <|
 Tab.ok_cons (by kernel_rfl) <|
 Tab.ok_cons (by kernel_rfl) <|
 Tab.ok_cons (by kernel_rfl) <|
 Tab.ok_cons (by kernel_rfl) <|
 Tab.ok_cons (by kernel_rfl) <|
 Tab.ok_cons (by kernel_rfl) <|
 Tab.ok_cons (by kernel_rfl) <|
 Tab.ok_cons (by kernel_rfl) <|
 Tab.ok_cons (by kernel_rfl) <|
 Tab.ok_cons (by kernel_rfl) <|
 Tab.ok_cons (by kernel_rfl) <|
 Tab.ok_cons (by kernel_rfl) <|
 Tab.ok_cons (by kernel_rfl) <|
 Tab.ok_cons (by kernel_rfl) <|
 Tab.ok_cons (by kernel_rfl) <|
 Tab.ok_cons (by kernel_rfl) <|
 Tab.ok_cons (by kernel_rfl) <|
 Tab.ok_cons (by kernel_rfl) <|
 Tab.ok_cons (by kernel_rfl) <|
 Tab.ok_cons (by kernel_rfl) <|
 Tab.ok_cons (by kernel_rfl) <|
 Tab.ok_cons (by kernel_rfl) <|
 Tab.ok_cons (by kernel_rfl) <|
 Tab.ok_cons (by kernel_rfl) <|
 Tab.ok_cons (by kernel_rfl) <|
 Tab.ok_cons (by kernel_rfl) <|
 Tab.ok_cons (by kernel_rfl) <|
 Tab.ok_cons (by kernel_rfl) <|
 Tab.ok_cons (by kernel_rfl) <|
 Tab.ok_cons (by kernel_rfl) <|
 Tab.ok_cons (by kernel_rfl) <|
 Tab.ok_cons (by kernel_rfl) <|
 Tab.ok_cons (by kernel_rfl) <|
 Tab.ok_cons (by kernel_rfl) <|
 Tab.ok_cons (by kernel_rfl) <|
 Tab.ok_cons (by kernel_rfl) <|
 Tab.ok_cons (by kernel_rfl) <|
 Tab.ok_cons (by kernel_rfl) <|
 Tab.ok_cons (by kernel_rfl) <|
 Tab.ok_cons (by kernel_rfl) <|
 Tab.ok_cons (by kernel_rfl) <|
 Tab.ok_cons (by kernel_rfl) <|
 Tab.ok_cons (by kernel_rfl) <|
 Tab.ok_cons (by kernel_rfl) <|
 Tab.ok_cons (by kernel_rfl) <|
 Tab.ok_cons (by kernel_rfl) <|
 Tab.ok_cons (by kernel_rfl) <|
 Tab.ok_cons (by kernel_rfl) <|
 Tab.ok_cons (by kernel_rfl) <|
 Tab.ok_cons (by kernel_rfl) <|
 Tab.ok_cons (by kernel_rfl) <|
 Tab.ok_cons (by kernel_rfl) <|
 Tab.ok_cons (by kernel_rfl) <|
 Tab.ok_cons (by kernel_rfl) <|
 Tab.ok_cons (by kernel_rfl) <|
 Tab.ok_cons (by kernel_rfl) <|
 Tab.ok_cons (by kernel_rfl) <|
 Tab.ok_cons (by kernel_rfl) <|
 Tab.ok_cons (by kernel_rfl) <|
 Tab.ok_cons (by kernel_rfl) <|
 Tab.ok_cons (by kernel_rfl) <|
 Tab.ok_cons (by kernel_rfl) <|
 Tab.ok_cons (by kernel_rfl) <|
 Tab.ok_cons (by kernel_rfl) <|
 Tab.ok_cons (by kernel_rfl) <|
 Tab.ok_cons (by kernel_rfl) <|
 Tab.ok_cons (by kernel_rfl) <|
 Tab.ok_cons (by kernel_rfl) <|
 Tab.ok_cons (by kernel_rfl) <|
 Tab.ok_cons (by kernel_rfl) <|
 Tab.ok_cons (by kernel_rfl) <|
 Tab.ok_cons (by kernel_rfl) <|
 Tab.ok_cons (by kernel_rfl) <|
 Tab.ok_cons (by kernel_rfl) <|
 Tab.ok_cons (by kernel_rfl) <|
 Tab.ok_cons (by kernel_rfl) <|
 Tab.ok_cons (by kernel_rfl) <|
 Tab.ok_cons (by kernel_rfl) <|
 Tab.ok_cons (by kernel_rfl) <|
 Tab.ok_cons (by kernel_rfl) <|
 Tab.ok_cons (by kernel_rfl) <|
 Tab.ok_cons (by kernel_rfl) <|
 Tab.ok_cons (by kernel_rfl) <|
 Tab.ok_cons (by kernel_rfl) <|
 Tab.ok_cons (by kernel_rfl) <|
 Tab.ok_cons (by kernel_rfl) <|
 Tab.ok_cons (by kernel_rfl) <|
 Tab.ok_cons (by kernel_rfl) <|
 Tab.ok_cons (by kernel_rfl) <|
 Tab.ok_cons (by kernel_rfl) <|
 Tab.ok_cons (by kernel_rfl) <|
 Tab.ok_cons (by kernel_rfl) <|
 Tab.ok_cons (by kernel_rfl) <|
 Tab.ok_cons (by kernel_rfl) <|
 Tab.ok_cons (by kernel_rfl) <|
 Tab.ok_cons (by kernel_rfl) <|
 Tab.ok_cons (by kernel_rfl) <|
 Tab.ok_cons (by kernel_rfl) <|
 Tab.ok_cons (by kernel_rfl) <|
 Tab.ok_cons (by kernel_rfl) <|
 Tab.ok_cons (by kernel_rfl) <|
 Tab.ok_cons (by kernel_rfl) <|
 Tab.ok_cons (by kernel_rfl) <|
 Tab.ok_cons (by kernel_rfl) <|
 Tab.ok_cons (by kernel_rfl) <|
 Tab.ok_cons (by kernel_rfl) <|
 Tab.ok_cons (by kernel_rfl) <|
 Tab.ok_cons (by kernel_rfl) <|
 Tab.ok_cons (by kernel_rfl) <|
 Tab.ok_cons (by kernel_rfl) <|
 Tab.ok_cons (by kernel_rfl) <|
 Tab.ok_cons (by kernel_rfl) <|
 Tab.ok_cons (by kernel_rfl) <|
 Tab.ok_cons (by kernel_rfl) <|
 Tab.ok_cons (by kernel_rfl) <|
 Tab.ok_cons (by kernel_rfl) <|
 Tab.ok_cons (by kernel_rfl) <|
 Tab.ok_cons (by kernel_rfl) <|
 Tab.ok_cons (by kernel_rfl) <|
 Tab.ok_cons (by kernel_rfl) <|
 Tab.ok_cons (by kernel_rfl) <|
 Tab.ok_cons (by kernel_rfl) <|
 Tab.ok_cons (by kernel_rfl) <|
 Tab.ok_cons (by kernel_rfl) <|
 Tab.ok_cons (by kernel_rfl) <|
 Tab.ok_cons (by kernel_rfl) <|
 Tab.ok_cons (by kernel_rfl) <|
 Tab.ok_cons (by kernel_rfl) <|
 Tab.ok_cons (by kernel_rfl) <|
 Tab.ok_cons (by kernel_rfl) <|
 Tab.ok_cons (by kernel_rfl) <|
 Tab.ok_cons (by kernel_rfl) <|
 Tab.ok_cons (by kernel_rfl) <|
 Tab.ok_cons (by kernel_rfl) <|
 Tab.ok_cons (by kernel_rfl) <|
 Tab.ok_cons (by kernel_rfl) <|
 Tab.ok_cons (by kernel_rfl) <|
 Tab.ok_cons (by kernel_rfl) <|
 Tab.ok_cons (by kernel_rfl) <|
 Tab.ok_cons (by kernel_rfl) <|
 Tab.ok_cons (by kernel_rfl) <|
 Tab.ok_cons (by kernel_rfl) <|
 Tab.ok_cons (by kernel_rfl) <|
 Tab.ok_cons (by kernel_rfl) <|
 Tab.ok_cons (by kernel_rfl) <|
 Tab.ok_cons (by kernel_rfl) <|
 Tab.ok_cons (by kernel_rfl) <|
 Tab.ok_cons (by kernel_rfl) <|
 Tab.ok_cons (by kernel_rfl) <|
 Tab.ok_cons (by kernel_rfl) <|
 Tab.ok_cons (by kernel_rfl) <|
 Tab.ok_cons (by kernel_rfl) <|
 Tab.ok_cons (by kernel_rfl) <|
 Tab.ok_cons (by kernel_rfl) <|
 Tab.ok_cons (by kernel_rfl) <|
 Tab.ok_cons (by kernel_rfl) <| Tab.ok_nil _
theorem jwk {T : List (Nat × Te)} (h : (T.all fun x => x.2.z.all fun u => u.oneCell') = true) : jhl T := fun t e he u hu => by
 induction T with
 | nil => simp [Tab.get] at he
 | cons x r ih =>
  obtain ⟨i, e1⟩ := x
  simp only [List.all_cons, Bool.and_eq_true] at h;unfold Tab.get at he
  split at he
  ·cases he
   exact List.all_eq_true.1 h.1 u hu
  ·exact ih h.2 he
theorem jw8 : jhl tab := jwk (by kernel_rfl)
theorem mixed : Tryz.prog.follows .mixedOrders = true := by kernel_rfl
def jxd (id : Nat) : Tr := match Nat.beq id 9 with | true => .q 0 3 (.q 1 0 (.q 2 3 (.q 3 3 (.q 4 0 (.q 5 3 (.alt 6 1 (.q 7 3 (.q 8 0 (.alt 9 2 (.q 10 3 (.nil)) (.nil)))) (.nil))))))) | false => .nil
def jzB (id : Nat) : Tr := match Nat.beq id 8 with | true => .q 0 3 (.q 1 0 (.q 2 3 (.q 3 3 (.alt 4 1 (.q 5 3 (.alt 6 1 (.alt 7 1 (.q 8 3 (.alt 9 2 (.nil) (.nil))) (.nil)) (.nil))) (.nil))))) | false => .nil
def jxG (id : Nat) : Tr := match Nat.beq id 6 with | true => .q 0 3 (.q 1 0 (.q 2 3 (.q 3 0 (.alt 4 1 (.alt 5 1 (.alt 6 2 (.nil) (.nil)) (.nil)) (.nil))))) | false => .nil
def jzH (id : Nat) : Tr := match Nat.beq id 1 with | true => .q 0 3 (.q 1 3 (.q 2 3 (.q 3 0 (.q 4 3 (.q 5 3 (.q 6 3 (.q 7 0 (.alt 8 2 (.q 9 3 (.nil)) (.nil))))))))) | false => .nil
def jAo (id : Nat) : Tr := match Nat.beq id 5 with | true => .q 0 3 (.q 1 0 (.q 2 3 (.q 3 3 (.alt 4 1 (.alt 5 1 (.alt 6 1 (.q 7 3 (.alt 8 2 (.nil) (.nil))) (.nil)) (.nil)) (.nil))))) | false => .nil
def jy6 (id : Nat) : Tr := match Nat.beq id 7 with | true => .q 0 3 (.q 1 3 (.q 2 0 (.q 3 3 (.q 4 0 (.alt 5 1 (.alt 6 1 (.alt 7 2 (.nil) (.nil)) (.nil)) (.nil)))))) | false => .nil
def jA0 (id : Nat) : Tr := match Nat.beq id 1 with | true => .q 0 3 (.q 1 3 (.q 2 3 (.q 3 0 (.q 4 3 (.q 5 3 (.q 6 3 (.q 7 3 (.q 8 0 (.q 9 3 (.alt 10 2 (.q 11 3 (.nil)) (.nil))))))))))) | false => .nil
def jgz (id : Nat) : Tr := match Nat.beq id 14 with | true => .q 0 3 (.q 1 0 (.q 2 0 (.q 3 3 (.alt 4 1 (.alt 5 1 (.q 6 3 (.alt 7 2 (.nil) (.nil))) (.nil)) (.nil))))) | false => match Nat.beq id 23 with | true => .q 0 0 (.q 1 3 (.alt 2 1 (.alt 3 1 (.q 4 3 (.alt 5 2 (.nil) (.nil))) (.nil)) (.nil))) | false => match Nat.beq id 32 with | true => .q 0 0 (.q 1 3 (.q 2 3 (.q 3 3 (.alt 4 1 (.alt 5 1 (.q 6 3 (.alt 7 2 (.nil) (.nil))) (.nil)) (.nil))))) | false => .nil
def jxr (id : Nat) : Tr := match Nat.beq id 4 with | true => .q 0 3 (.q 1 0 (.q 2 3 (.q 3 3 (.alt 4 1 (.alt 5 1 (.alt 6 1 (.q 7 3 (.alt 8 2 (.nil) (.nil))) (.nil)) (.nil)) (.nil))))) | false => .nil
def jyO (id : Nat) : Tr := match Nat.beq id 15 with | true => .q 0 0 (.q 1 3 (.q 4 3 (.alt 2 1 (.q 3 3 (.alt 5 1 (.q 6 3 (.alt 7 2 (.nil) (.nil))) (.nil))) (.nil)))) | false => match Nat.beq id 19 with | true => .q 0 0 (.q 1 3 (.q 4 3 (.alt 2 1 (.q 3 3 (.alt 5 1 (.q 6 3 (.alt 7 2 (.nil) (.nil))) (.nil))) (.nil)))) | false => match Nat.beq id 25 with | true => .q 0 0 (.q 1 3 (.q 2 3 (.alt 3 1 (.q 4 3 (.alt 5 2 (.nil) (.nil))) (.nil)))) | false => match Nat.beq id 27 with | true => .q 0 0 (.q 1 3 (.q 2 3 (.alt 3 1 (.q 4 3 (.alt 5 2 (.nil) (.nil))) (.nil)))) | false => .nil
def jzX (id : Nat) : Tr := match Nat.beq id 1 with | true => .q 0 0 (.q 1 3 (.q 2 3 (.q 3 0 (.alt 4 2 (.q 5 3 (.q 6 3 (.nil))) (.nil))))) | false => .nil
def jpl (id : Nat) : Tr := match Nat.beq id 20 with | true => .q 0 3 (.q 1 0 (.q 2 3 (.q 3 3 (.q 4 3 (.alt 5 1 (.alt 6 1 (.q 7 3 (.alt 8 2 (.nil) (.nil))) (.nil)) (.nil)))))) | false => .nil
def jsF (id : Nat) : Tr := match Nat.beq id 11 with | true => .q 0 3 (.q 1 0 (.q 2 3 (.q 3 3 (.q 4 3 (.alt 5 1 (.alt 6 1 (.q 7 3 (.alt 8 2 (.nil) (.nil))) (.nil)) (.nil)))))) | false => match Nat.beq id 14 with | true => .q 0 3 (.q 1 0 (.q 2 3 (.q 3 3 (.q 4 3 (.alt 5 1 (.alt 6 1 (.q 7 3 (.alt 8 2 (.nil) (.nil))) (.nil)) (.nil)))))) | false => .nil
def jrR (id : Nat) : Tr := match Nat.beq id 5 with | true => .q 0 3 (.q 1 0 (.q 2 3 (.q 3 3 (.alt 4 1 (.alt 5 1 (.q 6 3 (.alt 7 1 (.alt 8 2 (.nil) (.nil)) (.nil))) (.alt 7 1 (.alt 5 1 (.q 6 3 (.alt 8 2 (.nil) (.nil))) (.nil)) (.nil))) (.alt 7 1 (.alt 4 1 (.alt 5 1 (.q 6 3 (.alt 8 2 (.nil) (.nil))) (.nil)) (.nil)) (.nil)))))) | false => match Nat.beq id 8 with | true => .q 1 3 (.q 2 0 (.alt 0 1 (.alt 3 1 (.q 4 3 (.nil)) (.nil)) (.nil))) | false => .nil
def jxK (id : Nat) : Tr := match Nat.beq id 4 with | true => .q 0 3 (.q 1 0 (.q 2 3 (.q 3 3 (.alt 4 1 (.alt 5 1 (.q 6 3 (.alt 7 2 (.nil) (.nil))) (.nil)) (.nil))))) | false => .nil
def jyy (id : Nat) : Tr := match Nat.beq id 1 with | true => .q 0 0 (.q 1 3 (.alt 2 1 (.q 3 3 (.alt 4 1 (.alt 5 2 (.nil) (.nil)) (.nil))) (.alt 4 1 (.alt 2 1 (.q 3 3 (.alt 5 2 (.nil) (.nil))) (.nil)) (.nil)))) | false => .nil
def jyT (id : Nat) : Tr := match Nat.beq id 7 with | true => .q 0 3 (.q 1 0 (.q 2 3 (.q 3 3 (.alt 4 1 (.alt 5 1 (.alt 6 1 (.q 7 3 (.alt 8 2 (.nil) (.nil))) (.nil)) (.nil)) (.nil))))) | false => .nil
def jzg (id : Nat) : Tr := match Nat.beq id 3 with | true => .q 0 0 (.q 1 3 (.q 2 3 (.alt 3 1 (.alt 4 1 (.q 5 3 (.alt 6 1 (.alt 7 2 (.nil) (.nil)) (.nil))) (.alt 6 1 (.alt 4 1 (.q 5 3 (.alt 7 2 (.nil) (.nil))) (.nil)) (.nil))) (.alt 6 1 (.alt 3 1 (.alt 4 1 (.q 5 3 (.alt 7 2 (.nil) (.nil))) (.nil)) (.nil)) (.nil))))) | false => .nil
def jyb (id : Nat) : Tr := match Nat.beq id 7 with | true => .q 0 3 (.q 1 0 (.q 2 3 (.q 3 3 (.alt 4 1 (.alt 5 1 (.q 6 3 (.alt 7 2 (.nil) (.nil))) (.nil)) (.nil))))) | false => .nil
def jal (_ : Nat) : Tr := .nil
def xs0 (_ : Nat) : List Nat := []
theorem ja2 (ord : Nat -> Tr) (xs : Nat -> List Nat) (np : Nat) : (⟨Tryz.prog, tab, ord, xs, np, fun _ _ => False⟩ : Cx).ok := ⟨jlJ, jw8, mixed⟩
theorem juE (ord : Nat -> Tr) (xs : Nat -> List Nat) (np : Nat) : (⟨Tryz.prog, tab, ord, xs, np, fun _ _ => False⟩ : Cx).okN := ⟨⟨jlJ, jw8, mixed⟩, fun _ _ h => h⟩
theorem jat (ord : Nat -> Tr) (xs : Nat -> List Nat) (np : Nat) (pan : List PanicEntry -> S -> Prop) : (⟨Tryz.prog, tab, ord, xs, np, pan⟩ : Cx).ok := ⟨jlJ, jw8, mixed⟩
end Go.Proofs.YtmodkpibkkpcdaaGreatDoor.Vm
namespace Go.Proofs.YtmodkpibkkpcdaaGreatDoor.Vm
open Go.RowKit
set_option linter.unusedSimpArgs false
set_option linter.unusedVariables false
set_option maxRecDepth 100000
def jaS (x : ByteArray) : A := .v (.string x)
def jao (n : Int) : A := .v (.int .i64 n)
def jbI (b : Bool) : A := .v (.bool b)
def jdR (l : List ByteArray) : List A := l.map jaS
def jeJ (l : List Int) : List A := l.map jao
theorem jj1 (l : List ByteArray) (i : Nat) (hi : i < l.length) : jae 1 i (jdR l) = [.v (.string l[i])] := jbQ _ l i hi
theorem jpw (l : List Int) (i : Nat) (hi : i < l.length) : jae 1 i (jeJ l) = [.v (.int .i64 l[i])] := jbQ _ l i hi
theorem jeN (b : ByteArray) (i : Nat) (hi : i < b.data.toList.length) : jae 1 i (jbF b) = [.v (.int .u8 (b.data.toList[i].toNat : Int))] := jbQ _ b.data.toList i hi
theorem juJ {n : Nat} (h : n <= 1000000000) : n <= maxLen := by unfold maxLen; omega
theorem jeP {f : Nat} {fn : Func} {x : Code} (hf : Tryz.prog.funcs[f]? = some fn) (hb : fn.body = some x) (hname : (fn.name == "runtime.NumGoroutine") = false) : ∀ vs w, (callFunc f vs).run Tryz.prog w = .ok (.enter f vs) w := fun vs w => jdu hf hb hname vs w
theorem jgU {P : Program} {f : Nat} {args : List A} {r : A} (hcall : ∀ vs w, (callFunc f vs).run P w = .ok (.enter f vs) w)
  (h : ∀ w C vals, Gok C w -> Sub C (see w) -> A.repL args ⟨C, [], []⟩ vals -> Calls P f vals.toArray w fun e w' => ∃ v, e = .returned v /\ Ext w w' /\ r.rep ⟨jbq C w w', [], []⟩ v) : Spec P f [] args fun _ x => x = r := by
 refine ⟨hcall, fun w C β vals h0 h1 h2 h3 h4 h5 h6 => ?_⟩
 have hβ : β = [] := List.eq_nil_of_length_eq_zero (by simpa using h4.symm)
 subst hβ;refine (h w C vals h0 h1 h6).mono ?_;rintro e w' ⟨v, rfl, x, hr⟩;exact ⟨[], r, v, rfl, rfl, Keeps.of_ext x, rfl, fun i b cs hb => by simp at hb, hr⟩
theorem jn7 {α : Type} : ∀ {l : List α} {i : Nat} {a : α} {K : List α -> Prop}, i < l.length -> K (l.set i a) -> jju l i a K
 | [], i, a, K, h, _ => by simp at h
 | x :: l, 0, a, K, h, k => by simpa [jju] using k
 | x :: l, i + 1, a, K, h, k => by
  unfold jju;exact jn7 (by simpa using h) (by simpa using k)
theorem jjf : ∀ {n : Nat} {cs : List A} {K : List A -> Prop}, n <= cs.length -> K (cs.take n) -> jnh n cs K
 | 0, cs, K, _, k => by unfold jnh; simpa using k
 | n + 1, [], K, h, k => by simp at h
 | n + 1, c :: cs, K, h, k => by
  unfold jnh;exact jjf (by simpa using h) (by simpa using k)
theorem ble (h : Bool) (b : Bool) (e : h = b) : h = b := e
theorem jga {X : List Nat} {rw : List Row} : ∀ {l : List A}, (∀ a ∈ l, ∃ x, a = .v x) -> jcC X rw l = some l
 | [], _ => by simp [jcC]
 | a :: r, h => by
  obtain ⟨x, rfl⟩ := h a (by simp)
  unfold jcC;rw [jga (l := r) fun b hb => h b (by simp [hb])]
  simp [ren]
theorem jre {X : List Nat} {rw : List Row} {l : List A} (h : ∀ a ∈ l, ∃ x, a = .v x) : ren X rw (.agg l) = some (.agg l) := by
 unfold ren;rw [jga h]
theorem jhA {X : List Nat} : ∀ {l : List A}, (∀ a ∈ l, ∃ x, a = .v x) -> jdA X l = l
 | [], _ => by simp [jdA]
 | a :: r, h => by
  obtain ⟨x, rfl⟩ := h a (by simp)
  unfold jdA;rw [jhA (l := r) fun b hb => h b (by simp [hb])]
  simp [back]
theorem je6 {np : Nat} {t t' : List A} {bx : List (List A)} {rw : List Row} (h : eqL t t') : Le np ⟨t, bx, rw⟩ ⟨t', bx, rw⟩ := by
 rintro dr w0 C0 β0 a w _ _ ⟨E, hp, hrep, hd⟩;exact ⟨E, hp, jjZ (jle h) hrep, hd⟩
def jhs {X : Type} (t0 : List A) (g : X -> List (Nat × A)) (bx : X -> List (List A)) (rw : X -> List Row) (x : X) (s : S) : Prop :=
 jcy (g x) t0 fun t => eqL s.t t /\ s.bx = bx x /\ s.rw = rw x
theorem jfr {X : Type} {np : Nat} {s : S} {t0 : List A} {g : X -> List (Nat × A)} {bx : X -> List (List A)} {rw : X -> List Row} {x : X} (h : jhs t0 g bx rw x s) : Le np s (ji7 t0 g bx rw x) := by
 unfold jhs at h;rw [jbk] at h
 obtain ⟨h1, h2, h3⟩ := h
 obtain ⟨t, b, r⟩ := s
 simp only at h1 h2 h3
 subst h2; subst h3;exact je6 h1
theorem jgK {np : Nat} {f : S -> (Exit -> S -> Prop) -> Prop} {s : S} {t0 : List A} {Q : Exit -> S -> Prop} {X : Type} (g : X -> List (Nat × A)) (bx : X -> List (List A)) (rw : X -> List Row) (φ : X -> Prop) (μ : X -> Nat) (x0 : X)
  (h0 : jhs t0 g bx rw x0 s) (hφ : φ x0)
  (hr : ∀ x, φ x -> jcy (g x) t0 fun t => f ⟨t, bx x, rw x⟩ fun e s' => match e with
   | .normal => ∃ x', Le np s' (ji7 t0 g bx rw x') /\ φ x' /\ μ x' < μ x
   | e => Q e s') : jpq np f s t0 Q := by
 unfold jpq;unfold jdW
 exact ⟨X, ji7 t0 g bx rw, φ, μ, ⟨x0, jfr h0, hφ⟩, fun x hx => by
  have := hr x hx
  rw [jbk] at this
  exact this⟩
theorem jdm {cs : List A} {off : Nat} {d : A} {K : List A -> Prop} (h : off < cs.length) (k : K (cs.set off d)) : jbR cs off [d] K := by
 unfold jbR;exact jn7 h (by unfold jbR; exact k)
theorem jfY : ∀ {ds cs : List A} {K : List A -> Prop} (pre : List A), ds.length = cs.length -> K (pre ++ ds) -> jbR (pre ++ cs) pre.length ds K
 | [], [], K, pre, _, k => by unfold jbR; simpa using k
 | d :: ds, c :: cs, K, pre, h, k => by
  unfold jbR;refine jn7 (by simp) ?_
  have e : (pre ++ c :: cs).set pre.length d = (pre ++ [d]) ++ cs := by simp
  rw [e]
  have := jfY (K := K) (pre ++ [d]) (ds := ds) (cs := cs) (by simpa using h) (by simpa using k)
  simpa using this
 | [], _ :: _, _, _, h, _ => by simp at h
 | _ :: _, [], _, _, h, _ => by simp at h
theorem walk_cell {f : Nat} {args : List A} {vals : List Value} {w : World} (h : Spec Tryz.prog f [] args fun _ r => r = jbI true) (hg : Gok w.cell? w) (ha : A.repL args ⟨w.cell?, [], []⟩ vals) :
  Calls Tryz.prog f vals.toArray w fun e w' => e = .returned (.bool true) /\ Below w.heap.size w w' :=
 (h.2 w w.cell? [] vals hg (fun _ _ h => jkk h) List.nodup_nil (by simp) rfl (fun i b cs hb => by simp at hb) ha).mono fun e w' ⟨outs, r, v, he, hr, hk, _, _, hv⟩ => by
  subst hr;rw [he, (A.rep_v_iff.1 hv).1];exact ⟨rfl, hk.ext⟩
theorem jho {α : Type} {E : Env} {b : Nat} (f : α -> Value) (hf : ∀ x, (f x).oneCell' = true) : ∀ {l : List α} {off : Nat}, A.repAt (l.map fun x => .v (f x)) E b off ↔ ∀ i (hi : i < l.length), E.C ⟨b, off + i, none⟩ = some (f l[i]) /\ okV (f l[i])
 | [], off => by simp [A.repAt]
 | x :: l, off => by
  simp only [List.map_cons, A.repAt];rw [jho f hf (l := l)]
  constructor
  ·rintro ⟨⟨u, h1, -, h3⟩, h4⟩ i hi;rw [A.rep_v_iff] at h3
   cases i with
   | zero => rw [Nat.add_zero, h1, h3.1]; exact ⟨rfl, h3.2⟩
   | succ i =>
    have := h4 i (by simpa using hi)
    rw [show off + (i + 1) = off + 1 + i by omega]; exact this
  ·intro h;refine ⟨⟨f x, by have := (h 0 (by simp)).1; simpa using this, hf x, A.rep_v_iff.2 ⟨rfl, (h 0 (by simp)).2⟩⟩, fun i hi => ?_⟩
   have := h (i + 1) (by simpa using hi)
   rw [show off + 1 + i = off + (i + 1) by omega]; exact this
theorem rep_vi {E : Env} {n : Int} {u : Value} : (A.v (.int .i64 n)).rep E u ↔ u = .int .i64 n /\ (-9223372036854775808 <= n /\ n <= 9223372036854775807) := by
 rw [A.rep_v_iff]
 constructor
 ·rintro ⟨h1, h2⟩; exact ⟨h1, okV_int.1 h2⟩
 ·rintro ⟨h1, h2⟩; exact ⟨h1, okV_int.2 h2⟩
theorem jkZ {E : Env} {v : Value} {l : List Int} {p : Option Addr} {b off cap : Nat} (h1 : l.length <= maxLen) (h2 : ∀ n ∈ l, -9223372036854775808 <= n /\ n <= 9223372036854775807) (hv : v = .slice p l.length cap) (hc : l.length <= cap) (hp : l = [] ∨ p = some ⟨b, off, none⟩) (hn : p = none -> cap = 0)
  (hh : ∀ i, i < l.length -> E.C ⟨b, off + i, none⟩ = some (.int .i64 (l.getD i 0))) : (A.sl 1 l.length (jeJ l)).rep E v := by
 subst hv;unfold A.rep;refine ⟨by simp [jeJ], h1, p, b, off, cap, rfl, hc, ?_, hn, ?_⟩
 ·rcases hp with rfl | hp
  ·exact .inl rfl
  ·exact .inr hp
 ·refine (jho (E := E.per) (Value.int .i64) (fun _ => rfl)).2 fun i hi => ⟨?_, okV_int.2 (h2 _ (List.getElem_mem hi))⟩
  have := hh i hi
  simp [List.getD_eq_getElem?_getD, hi] at this
  exact this
theorem row_rep {w : World} {a : Option Addr} {len cap : Nat} {zs : List Int} (h : (a = none /\ len = 0 /\ cap = 0 /\ zs = []) ∨ ∃ x, a = some x /\ len <= cap /\ cap <= maxLen /\ zs.length = cap /\ (∀ i, i < zs.length -> w.cell? (x.add i) = some (.int .i64 (zs.getD i 0))) /\ ∀ n ∈ zs, (Lit.int .i64 n).wf = true) :
  (A.sl 1 (zs.take len).length (jeJ (zs.take len))).rep ⟨w.cell?, [], []⟩ (.slice a len cap) := by
 rcases h with ⟨rfl, rfl, rfl, rfl⟩ | ⟨x, rfl, hl, hm, hz, hc, hw⟩
 ·exact jkZ (p := none) (b := 0) (off := 0) (cap := 0) (by simp) (by simp) rfl (by simp) (.inl rfl) (fun _ => rfl) (fun i hi => absurd hi (by simp))
 ·have hlen : (zs.take len).length = len := by simp; omega
  refine jkZ (p := some x) (b := x.block) (off := x.off) (cap := cap) (by omega) (fun n hn => ?_) (by rw [hlen]) (by omega) ?_ (by simp) (fun i hi => ?_)
  ·have := hw n (List.mem_of_mem_take hn)
   simp [Lit.wf] at this
   exact this
  ·by_cases h0 : len = 0
   ·left; subst h0; simp
   ·right
    have := hc 0 (by omega)
    obtain ⟨b, o, sp⟩ := x
    cases sp with
    | none => rfl
    | some k => simp [Addr.add, World.cell?] at this; split at this <;> simp at this
  ·have hi' : i < len := by omega
   have e := hc i (by omega)
   have h0 := hc 0 (by omega)
   obtain ⟨b, o, sp⟩ := x
   cases sp with
   | none => rw [jnr] at e; show w.cell? ⟨b, o + i, none⟩ = _; rw [e]; simp [List.getD_eq_getElem?_getD, hi']
   | some k => simp [Addr.add, World.cell?] at h0; split at h0 <;> simp at h0
theorem int_rep {E : Env} {n : Int} (h : (Lit.int .i64 n).wf = true) : (A.v (.int .i64 n)).rep E (.int .i64 n) := by
 refine rep_vi.2 ⟨rfl, ?_⟩
 simp [Lit.wf] at h
 exact h
theorem args_nil {E : Env} : A.repL [] E [] := by unfold A.repL; rfl
def IsInts (cs : List Value) : Prop := ∃ l : List Int, cs = l.map (Value.int .i64) /\ ∀ n ∈ l, (Lit.int .i64 n).wf = true
theorem IsInts.app {a b : List Value} (h : IsInts a) (k : IsInts b) : IsInts (a ++ b) := by
 obtain ⟨l, rfl, h1⟩ := h
 obtain ⟨m, rfl, h2⟩ := k
 exact ⟨l ++ m, by simp, fun n hn => (List.mem_append.1 hn).elim (h1 n) (h2 n)⟩
theorem jyK {C : Rd} {g : Nat} (h : ∃ u v, C ⟨g, 0, none⟩ = some (.iface u v)) : A.repAt [.err] ⟨C, [], []⟩ g 0 := by
 obtain ⟨u, v, h⟩ := h
 unfold A.repAt;refine ⟨⟨_, h, rfl, ?_⟩, by simp [A.repAt]⟩;unfold A.rep;exact ⟨u, v, rfl⟩
theorem jeT {P : Program} {w : World} {n : String} {d : DataW Unit} {g ti : Nat} (hg : P.globalNamed n = some g) (ht : (P.globals[g]?).map (·.type) = some ti) :
  ∀ {l : List (String × DataW Unit)} {ps : List MemPlace}, DataW.LaidVars P w l ps -> (n, d) ∈ l -> ∃ cs base sp fuel p, w.var? P n = some cs /\ DataW.trod (fun _ => ()) P w base sp false fuel ti cs.toList = some (d, p)
 | [], _, _, hm => by simp at hm
 | (n', d') :: r, ps, h, hm => by
  obtain ⟨g', t', cs, fuel, p, q, e1, e2, e3, e4, e5, _⟩ := h
  rcases List.mem_cons.1 hm with e | hm
  ·cases e
   obtain rfl := Option.some.inj (hg.symm.trans e1)
   obtain rfl := Option.some.inj (ht.symm.trans e2)
   exact ⟨cs, _, _, fuel, p, e3, e4⟩
  ·exact jeT hg ht e5 hm
theorem jh8 {P : Program} {w : World} {n : String} {g : Nat} {cs : Array Value} (hg : P.globalNamed n = some g) (h : w.var? P n = some cs) : ∃ T sp, w.heap[g]? = some (.cells cs T sp) := by
 simp only [World.var?, hg, Option.bind_some] at h
 split at h
 ·rename_i cs' T sp hh
  cases h
  exact ⟨T, sp, hh⟩
 ·cases h
theorem gok_iface {P : Program} {w : World} {n nm : String} {d : DataW Unit} {g ti : Nat} {ms : Array (String × TypeId)} (hg : P.globalNamed n = some g) (ht : (P.globals[g]?).map (·.type) = some ti) (hi : P.underlying ti = some (.interface ms))
  {l : List (String × DataW Unit)} {ps : List MemPlace} (h : DataW.LaidVars P w l ps) (hm : (n, DataW.iface nm d) ∈ l) : (([A.err] : List A) ≠ [] /\ A.repAt [.err] ⟨w.cell?, [], []⟩ g 0) /\ ∃ cs T sp, w.heap[g]? = some (.cells cs T sp) /\ cs.size = 1 := by
 obtain ⟨cs, base, sp, fuel, p, e1, e2⟩ := jeT hg ht h hm
 obtain ⟨f', u, v, ecs, _⟩ := iface_of_trod hi e2
 obtain ⟨T, sp2, hh⟩ := jh8 hg e1
 have hc : w.cell? ⟨g, 0, none⟩ = some (.iface u v) := by
  have := World.var?_cell hg e1 0
  rw [this, <- Array.getElem?_toList, ecs]; rfl
 refine ⟨⟨by simp, jyK ⟨u, v, hc⟩⟩, cs, T, sp2, hh, ?_⟩
 have := congrArg List.length ecs
 simpa using this
theorem gok_tab {P : Program} {w : World} {n : String} {k : IntKind} {zs : List Int} {g ti e m : Nat} (hg : P.globalNamed n = some g) (ht : (P.globals[g]?).map (·.type) = some ti) (hu : P.underlying ti = some (.array m e)) (he : P.underlying e = some (.int k)) (hce : P.cellsOf e = 1) (hct : P.cellsOf ti = m) (hne : zs ≠ []) (hzs : ∀ z ∈ zs, okV (.int k z))
  {l : List (String × DataW Unit)} {ps : List MemPlace} (h : DataW.LaidVars P w l ps) (hm : (n, Lib.tabData k zs) ∈ l) : (((zs.map fun z => A.v (.int k z)) ≠ []) /\ A.repAt (zs.map fun z => A.v (.int k z)) ⟨w.cell?, [], []⟩ g 0) /\ ∃ cs T sp, w.heap[g]? = some (.cells cs T sp) /\ cs.size = (zs.map fun z => A.v (.int k z)).length := by
 obtain ⟨cs, base, sp, fuel, p, e1, e2⟩ := jeT hg ht h hm
 have ecs := Lib.cells_of_tab hu he hce hct e2
 obtain ⟨T, sp2, hh⟩ := jh8 hg e1
 refine ⟨⟨by simpa using hne, ?_⟩, cs, T, sp2, hh, ?_⟩
 ·refine (jho (fun z => Value.int k z) (fun _ => rfl)).2 fun i hi => ⟨?_, hzs _ (List.getElem_mem hi)⟩
  have := World.var?_cell hg e1 (0 + i)
  show w.cell? _ = _
  rw [this, <- Array.getElem?_toList, ecs]
  simp [hi]
 ·have := congrArg List.length ecs
  simpa using this
section
theorem gok_num {P : Program} {w : World} {g t : Nat} (h : w.ShapedOpen P) (hg : g < P.globals.size)
  (h0 : ((begin P (fun _ _ => 0) default).world.heap[g]?).bind Obj.row? = some (#[.int .i64 0], t))
  (hb : P.buildable t = true) (hc : P.cellTypes P.depth t = some [t]) (hu : P.underlying t = some (.int .i64)) :
  (([A.num] : List A) ≠ [] /\ A.repAt [.num] ⟨w.cell?, [], []⟩ g 0) /\ ∃ cs T sp, w.heap[g]? = some (.cells cs T sp) /\ cs.size = 1 := by
 obtain ⟨m, hm⟩ := cell_of_shapedOpen_int h hg h0 rfl hb hc hu
 obtain ⟨cs, hh, hs, _⟩ := h.1 g _ _ hg h0
 refine ⟨⟨by simp, ?_⟩, cs, t, _, hh, hs⟩
 ·unfold A.repAt A.repAt;exact ⟨⟨_, hm, rfl, by unfold A.rep; exact ⟨m, rfl⟩⟩, trivial⟩
section
variable {H : Type} {enc : TypeId × Value -> H}
theorem frame_shaped {a : Assume} {C : Checked} {os : Os} {f : FuncId} {fn : Func} {s : ChangeSpec} {conds : List PathCond} {apart fresh handsOn again : Bool} {X : World -> Array Value -> Prop}
  (hX : ∀ (w w' : World) (args : Array Value), w.heap = w'.heap -> X w args -> X w' args)
  (own : ownKnob C.prog.godebug = none) (started : os.Started) (noInit : C.prog.inits.idxOf? f = none) (hfn : C.prog.funcs[f]? = some fn)
  (witness : ∃ (w : World) (tape : Tape) (i : Input), w.os = os /\ (w.forCall tape i).Shaped C.prog /\ i.vars = [] /\ Input.okWide C.prog (w.forCall tape i) .any w.heap.size f i ∧
   ((s.pre enc C.prog fn conds apart (w.forCall tape i).memory i.args /\ X (w.forCall tape i).memory i.args) /\ sizedMet enc C.prog fn (OpenSpec.ofChange s) apart (w.forCall tape i).memory i.args) /\ a.holds C.prog (lone (Frame.enter C.prog f i.args .normal) [] (w.forCall tape i)))
  (contract : ∀ (W : World) (base : Nat) (args : Array Value) (ds gs : List (DataW H)) (before : List MemPlace),
   (∀ (j : Nat) t v, fn.params[j]? = some t -> args[j]? = some v -> Value.okWide C.prog W .any base t v) →
   DataW.Whole enc C.prog fn.params.toList s.vars apart W args.toList ds gs before -> X W args -> W.ShapedOpen C.prog →
   Calls C.prog f args W fun e W' => ∃ v, e = .returned v /\ s.post enc C.prog fn apart fresh handsOn again W args v W') :
  ReturnsInHanded a C os f .any (fun w args => (s.pre enc C.prog fn conds apart w args /\ X w args) /\ sizedMet enc C.prog fn (OpenSpec.ofChange s) apart w args) (s.post enc C.prog fn apart fresh handsOn again) := by
 refine returnsInHanded_of_calls own started noInit witness ?_;intro w tape i _ hsh _ hok hpre _
 obtain ⟨_, _, _, fn', hfn', _, _, _, _, hval⟩ := hok
 obtain rfl : fn' = fn := Option.some.inj (hfn'.symm.trans hfn)
 obtain ⟨⟨⟨ds, gs, before, hw, _⟩, hx⟩, _⟩ := hpre
 have hw2 := DataW.Whole.of_heap (w' := w.forCall tape i) (by rfl) hw
 refine (contract (w.forCall tape i) w.heap.size i.args ds gs before hval hw2 (hX _ _ _ (by rfl) hx) hsh).mono fun e W' hr => ?_
 obtain ⟨v, he, hp⟩ := hr
 subst he;exact ChangeSpec.post_blind hp
end
end
def isL (c : UInt8) : Bool := decide (97 <= (c.toNat : Int)) && decide ((c.toNat : Int) <= 122)
def isD (c : UInt8) : Bool := decide (48 <= (c.toNat : Int)) && decide ((c.toNat : Int) <= 57)
def jbu (c : UInt8) : Bool := isL c || isD c
def jpz (c : UInt8) : Bool := (decide ((c.toNat : Int) = 32) || decide ((c.toNat : Int) = 9)) || decide ((c.toNat : Int) = 10)
def jeY (c : UInt8) : Bool := !decide ((c.toNat : Int) = 10)
def jcf (c : UInt8) : Bool := decide ((c.toNat : Int) = 35)
def jaf (p : UInt8 -> Bool) : List UInt8 -> Nat
 | [] => 0
 | c :: r => match p c with | true => jaf p r + 1 | false => 0
def jgy : Int -> List UInt8 -> Int
 | n, [] => n
 | n, c :: r => if 2147483647 < 10 * n + (c.toNat : Int) - 48 then -1 else jgy (10 * n + (c.toNat : Int) - 48) r
def bs (l : List UInt8) : ByteArray := ⟨l.toArray⟩
def jia : List ByteArray := [bs [124, 124], bs [38, 38], bs [60, 61], bs [62, 61], bs [61, 61], bs [33, 61]]
def jpH : List ByteArray := [bs [123], bs [125], bs [91], bs [93], bs [40], bs [41], bs [61], bs [59], bs [44], bs [60], bs [62], bs [43], bs [45], bs [42], bs [47], bs [33]]
def jcF (l : List ByteArray) (s : ByteArray) : Bool := l.any fun x => decide (x = s)
inductive T1 where
 | bad (e : Int)
 | tok (kind : Int) (len : Nat) (n : Int)
def jbh : List UInt8 -> T1
 | [] => .bad 10
 | c :: r => match isL c with
  | true => if 10 < jaf jbu r + 1 then .bad 2 else .tok 1 (jaf jbu r + 1) 0
  | false => match isD c with
   | true => if jgy 0 (c :: r.take (jaf isD r)) < 0 then .bad 6 else .tok 2 (jaf isD r + 1) (jgy 0 (c :: r.take (jaf isD r)))
   | false => match jcF jia (bs ((c :: r).take 2)) with
    | true => .tok 3 2 0
    | false => match jcF jpH (bs [c]) with
     | true => .tok 3 1 0
     | false => .bad 10
structure Tk where
 kind : Int
 pos : Nat
 text : ByteArray
 n : Int
structure Lx where
 toks : List Tk
 err : Option (Nat × Int)
def Lx.cons (t : Tk) (x : Lx) : Lx := ⟨t :: x.toks, x.err⟩
def jeZ : Nat -> Nat -> List UInt8 -> Lx
 | 0, _, _ => ⟨[], none⟩
 | f + 1, pos, [] => ⟨[], none⟩
 | f + 1, pos, c :: r => match jcf c with
  | true => jeZ f (pos + 1 + jaf jeY r) (r.drop (jaf jeY r))
  | false => match jpz c with
   | true => jeZ f (pos + 1) r
   | false => match jbh (c :: r) with
    | .bad e => ⟨[], some (pos, e)⟩
    | .tok k len n => Lx.cons ⟨k, pos, bs ((c :: r).take len), n⟩ (jeZ f (pos + len) ((c :: r).drop len))
def tkL (t : Tk) : List A := [jao t.kind, jao t.pos, jaS t.text, jao t.n]
def jer (l : List Tk) : List A := l.flatMap tkL
def jf1 (s : ByteArray) : Tk := ⟨0, s.size, ⟨#[]⟩, 0⟩
theorem jci (p : UInt8 -> Bool) : ∀ l : List UInt8, jaf p l <= l.length
 | [] => by simp [jaf]
 | c :: r => by
  have := jci p r
  unfold jaf
  split <;> simp <;> omega
theorem jqS (l : List ByteArray) (s : ByteArray) (k : Nat) (hk : k < l.length) : jcF (l.take (k + 1)) s = (jcF (l.take k) s || decide (l[k] = s)) := by
 unfold jcF;rw [List.take_succ_eq_append_getElem hk, List.any_append]; simp
theorem jbv (s : ByteArray) : s.data.toList.length = s.size := by rw [Array.length_toList]; rfl
theorem jfm (l : List UInt8) (i : Nat) (hi : i < l.length) : l.drop i = l[i] :: l.drop (i + 1) := List.drop_eq_getElem_cons hi
theorem jwm {c : UInt8} (h : isD c = true) : 48 <= (c.toNat : Int) /\ (c.toNat : Int) <= 57 := by
 unfold isD at h;rw [Bool.and_eq_true] at h;exact ⟨of_decide_eq_true h.1, of_decide_eq_true h.2⟩
theorem jiD (s : ByteArray) (a b : Nat) : s.extract a b = bs ((s.data.toList.drop a).take (b - a)) := by
 apply ByteArray.ext
 rw [ByteArray.data_extract]
 apply Array.toList_inj.1
 simp [bs, Array.toList_extract, List.extract_eq_take_drop]
theorem jgM (s : ByteArray) (a b n : Nat) (h : b = min (a + n) s.size) (ha : a <= s.size) : s.extract a b = bs ((s.data.toList.drop a).take n) := by
 have hsl := jbv s
 rw [jiD]
 congr 1
 subst h
 rcases Nat.le_total (a + n) s.size with h | h
 ·rw [Nat.min_eq_left h, Nat.add_sub_cancel_left]
 ·rw [Nat.min_eq_right h, List.take_of_length_le (by rw [List.length_drop]; omega), List.take_of_length_le (by rw [List.length_drop]; omega)]
theorem jbB (l : List UInt8) : (bs l).size = l.length := by show l.toArray.size = _; exact List.size_toArray
theorem jb3 (l : List UInt8) : (bs l).data.toList = l := by simp [bs]
theorem jh5 (p : UInt8 -> Bool) : ∀ (l : List UInt8), ∀ c ∈ l.take (jaf p l), p c = true
 | [], c, h => by simp [jaf] at h
 | x :: r, c, h => by
  unfold jaf at h
  split at h
  ·rename_i hp
   rw [List.take_succ_cons] at h
   rcases List.mem_cons.1 h with rfl | h
   ·exact hp
   ·exact jh5 p r c h
  ·simp at h
theorem jeu : ∀ {l : List UInt8} {k : Int} {len : Nat} {n : Int}, jbh l = .tok k len n -> 1 <= len /\ len <= l.length
 | [], _, _, _, h => by simp [jbh] at h
 | c :: r, k, len, n, h => by
  have h1 := jci jbu r
  have h2 := jci isD r
  cases hL : isL c
  ·cases hD : isD c
   ·cases h3 : jcF jia (bs ((c :: r).take 2))
    ·cases h4 : jcF jpH (bs [c])
     ·simp only [jbh, hL, hD, h3, h4] at h
      cases h
     ·simp only [jbh, hL, hD, h3, h4] at h
      cases h
      simp
    ·simp only [jbh, hL, hD, h3] at h
     cases h
     cases r with
     | nil =>
      exfalso
      have : jcF jia (bs [c]) = false := by
       unfold jcF;rw [List.any_eq_false];intro x hx he
       have he := of_decide_eq_true he
       have hs : x.size = 1 := by rw [he, jbB]; rfl
       have : ∀ x ∈ jia, x.size = 2 := by decide
       have := this x hx
       omega
      rw [show (c :: ([] : List UInt8)).take 2 = [c] from rfl, this] at h3
      cases h3
     | cons d r => simp
   ·simp only [jbh, hL, hD] at h
    split at h
    ·cases h
    ·cases h; simp; omega
  ·simp only [jbh, hL] at h
   split at h
   ·cases h
   ·cases h; simp; omega
theorem jtu {l : List UInt8} {e : Int} (h : jbh l = .bad e) : e ≠ 0 := by
 cases l with
 | nil => simp [jbh] at h; omega
 | cons c r =>
  cases hL : isL c
  ·cases hD : isD c
   ·cases h3 : jcF jia (bs ((c :: r).take 2))
    ·cases h4 : jcF jpH (bs [c])
     ·simp only [jbh, hL, hD, h3, h4] at h
      cases h; decide
     ·simp only [jbh, hL, hD, h3, h4] at h
      cases h
    ·simp only [jbh, hL, hD, h3] at h
     cases h
   ·simp only [jbh, hL, hD] at h
    split at h
    ·cases h; decide
    ·cases h
  ·simp only [jbh, hL] at h
   split at h
   ·cases h; decide
   ·cases h
theorem jgQ : ∀ (f f' p : Nat) (l : List UInt8), l.length < f -> l.length < f' -> jeZ f p l = jeZ f' p l
 | 0, _, _, _, h, _ => by omega
 | _ + 1, 0, _, _, _, h => by omega
 | f + 1, f' + 1, p, [], _, _ => rfl
 | f + 1, f' + 1, p, c :: r, h, h' => by
  simp only [List.length_cons] at h h'
  have key : ∀ (q k : Nat) (l : List UInt8), l.length <= r.length -> jeZ f q l = jeZ f' q l := fun q k l hl => jgQ f f' q l (by omega) (by omega)
  unfold jeZ
  split
  ·exact key _ 0 _ (by simp)
  ·split
   ·exact key _ 0 _ (Nat.le_refl _)
   ·split
    ·rfl
    ·rename_i k len n ht
     have := jeu ht
     rw [key _ 0 _ (by simp; omega)]
def ji4 (p : Nat) (l : List UInt8) : Lx := jeZ (l.length + 1) p l
theorem jnW (p : Nat) : ji4 p [] = ⟨[], none⟩ := rfl
theorem js8 {p : Nat} {c : UInt8} {r : List UInt8} (h : jcf c = true) : ji4 p (c :: r) = ji4 (p + 1 + jaf jeY r) (r.drop (jaf jeY r)) := by
 unfold ji4;rw [jeZ, h];exact jgQ _ _ _ _ (by simp; omega) (by simp)
theorem jmZ {p : Nat} {c : UInt8} {r : List UInt8} (h : jcf c = false) (h2 : jpz c = true) : ji4 p (c :: r) = ji4 (p + 1) r := by
 unfold ji4;rw [jeZ, h, h2];exact jgQ _ _ _ _ (by simp) (by simp)
theorem jo8 {p : Nat} {c : UInt8} {r : List UInt8} {e : Int} (h : jcf c = false) (h2 : jpz c = false) (ht : jbh (c :: r) = .bad e) : ji4 p (c :: r) = ⟨[], some (p, e)⟩ := by
 unfold ji4;rw [jeZ, h, h2, ht]
theorem jjb {p : Nat} {c : UInt8} {r : List UInt8} {k : Int} {len : Nat} {n : Int} (h : jcf c = false) (h2 : jpz c = false) (ht : jbh (c :: r) = .tok k len n) :
  ji4 p (c :: r) = Lx.cons ⟨k, p, bs ((c :: r).take len), n⟩ (ji4 (p + len) ((c :: r).drop len)) := by
 have hl := jeu ht
 unfold ji4;rw [jeZ, h, h2, ht]
 simp only
 rw [jgQ _ (((c :: r).drop len).length + 1) _ _ (by simp at hl ⊢; omega) (by simp)]
def jb4 (s : ByteArray) : Lx := ji4 0 s.data.toList
def Lx.app (ts : List Tk) (x : Lx) : Lx := ⟨ts ++ x.toks, x.err⟩
theorem joa (ts : List Tk) (t : Tk) (x : Lx) : Lx.app ts (Lx.cons t x) = Lx.app (ts ++ [t]) x := by simp [Lx.app, Lx.cons]
def jwU (s : ByteArray) : A := match (jb4 s).err with
 | some (p, e) => .tup [.v (.slice none 0 0), jao p, jao e]
 | none => .tup [.sl 4 ((jb4 s).toks.length + 1) (jer ((jb4 s).toks ++ [jf1 s])), jao 0, jao 0]
theorem je2 (l : List UInt8) (len : Nat) (h : len <= l.length) : (bs (l.take len)).size = len := by rw [jbB, List.length_take]; omega
def u8A (n : Int) : A := .v (.int .u8 n)
@[irreducible] def jbo (f : Nat -> Int) : List A := (List.range 256).map fun j => u8A (f j)
theorem jbW (f : Nat -> Int) : (jbo f).length = 256 := by unfold jbo; simp
theorem jnu (f : Nat -> Int) (j : Nat) (h : j < 256) : (jbo f)[j]? = some (u8A (f j)) := by unfold jbo; simp [h]
theorem jiI (f : Nat -> Int) : ∀ a ∈ jbo f, ∃ x, a = .v x := fun a ha => by
 unfold jbo at ha
 obtain ⟨j, _, rfl⟩ := List.mem_map.1 ha
 exact ⟨_, rfl⟩
theorem jfl (f : Nat -> Int) (i : Nat) (d : Int) : (jbo f).set i (u8A d) = jbo fun j => if j = i then d else f j := by
 apply List.ext_getElem?
 intro j;rw [List.getElem?_set]
 by_cases hj : j < 256
 ·rw [jnu _ j hj, jnu _ j hj, jbW]
  by_cases hij : i = j
  ·subst hij;rw [if_pos rfl, if_pos hj, if_pos rfl]
  ·rw [if_neg hij, if_neg (fun e => hij e.symm)]
 ·have h1 : ∀ f, (jbo f)[j]? = none := fun f => List.getElem?_eq_none (by rw [jbW]; omega)
  rw [h1, h1, jbW]
  split
  ·rename_i h
   subst h;rw [if_neg hj]
  ·rfl
theorem jdr {f g : Nat -> Int} (h : ∀ j, j < 256 -> f j = g j) : jbo f = jbo g := by
 unfold jbo
 exact List.map_congr_left fun j hj => by rw [h j (List.mem_range.1 hj)]
def f1 (k : Nat) (j : Nat) : Int := if 97 <= j /\ j < k then 2 else 0
def f2 (k : Nat) (j : Nat) : Int := if 48 <= j /\ j < k then 3 else f1 123 j
def l3 : List Int := [32, 9, 10]
def l5 : List Int := [123, 125, 91, 93, 40, 41, 61, 59, 44, 60, 62, 43, 45, 42, 47, 33]
def f3 (k : Nat) (j : Nat) : Int := if (j : Int) ∈ l3.take k then 1 else f2 58 j
def f5 (k : Nat) (j : Nat) : Int := if (j : Int) ∈ l5.take k then 5 else f3 3 j
def classOf (j : Nat) : Int := if j = 35 then 4 else f5 16 j
theorem jev (l : List Int) (k : Nat) (hk : k < l.length) (x : Int) : x ∈ l.take (k + 1) ↔ x ∈ l.take k ∨ x = l[k] := by
 rw [List.take_succ_eq_append_getElem hk, List.mem_append, List.mem_singleton]
theorem jor (l : List Int) (i : Nat) (hi : i < l.length) : jae 1 i (l.map u8A) = [.v (.int .u8 l[i])] := jbQ _ l i hi
theorem jyz (k : Nat) (h1 : 97 <= k) (h2 : k < 256) : (jbo (f1 k)).set k (u8A 2) = jbo (f1 (k + 1)) := by
 rw [jfl]
 refine jdr fun j hj => ?_
 unfold f1
 by_cases h : j = k
 ·subst h; rw [if_pos rfl, if_pos (by omega)]
 ·rw [if_neg h]
  by_cases h3 : 97 <= j /\ j < k
  ·rw [if_pos h3, if_pos (by omega)]
  ·rw [if_neg h3, if_neg (by omega)]
theorem jyL (k : Nat) (h1 : 48 <= k) (h2 : k < 256) : (jbo (f2 k)).set k (u8A 3) = jbo (f2 (k + 1)) := by
 rw [jfl]
 refine jdr fun j hj => ?_
 unfold f2
 by_cases h : j = k
 ·subst h; rw [if_pos rfl, if_pos (by omega)]
 ·rw [if_neg h]
  by_cases h3 : 48 <= j /\ j < k
  ·rw [if_pos h3, if_pos (by omega)]
  ·rw [if_neg h3, if_neg (by omega)]
theorem jxm (k : Nat) (hk : k < l3.length) (i : Nat) (hi : (i : Int) = l3[k]) : (jbo (f3 k)).set i (u8A 1) = jbo (f3 (k + 1)) := by
 rw [jfl]
 refine jdr fun j hj => ?_
 unfold f3
 by_cases h : j = i
 ·subst h; rw [if_pos rfl, if_pos ((jev l3 k hk _).2 (.inr hi))]
 ·rw [if_neg h]
  by_cases h3 : (j : Int) ∈ l3.take k
  ·rw [if_pos h3, if_pos ((jev l3 k hk _).2 (.inl h3))]
  ·rw [if_neg h3, if_neg fun e => ((jev l3 k hk _).1 e).elim h3 fun e => by omega]
theorem jxo (k : Nat) (hk : k < l5.length) (i : Nat) (hi : (i : Int) = l5[k]) : (jbo (f5 k)).set i (u8A 5) = jbo (f5 (k + 1)) := by
 rw [jfl]
 refine jdr fun j hj => ?_
 unfold f5
 by_cases h : j = i
 ·subst h; rw [if_pos rfl, if_pos ((jev l5 k hk _).2 (.inr hi))]
 ·rw [if_neg h]
  by_cases h3 : (j : Int) ∈ l5.take k
  ·rw [if_pos h3, if_pos ((jev l5 k hk _).2 (.inl h3))]
  ·rw [if_neg h3, if_neg fun e => ((jev l5 k hk _).1 e).elim h3 fun e => by omega]
theorem jyo (k : Nat) (hk : k < l3.length) : 0 <= l3[k] /\ l3[k] < 256 := by
 have : ∀ x ∈ l3, 0 <= x /\ x < 256 := by decide
 exact this _ (List.getElem_mem hk)
theorem jxS (k : Nat) (hk : k < l5.length) : 0 <= l5[k] /\ l5[k] < 256 := by
 have : ∀ x ∈ l5, 0 <= x /\ x < 256 := by decide
 exact this _ (List.getElem_mem hk)
theorem u8r {n : Int} (h : 0 <= n /\ n <= 255) : lo .u8 <= n /\ n <= hi .u8 := h
theorem jxH : (List.range 256).map (fun _ => u8A 0) = jbo (f1 97) := by
 unfold jbo
 exact List.map_congr_left fun j hj => by unfold f1; rw [if_neg (by omega)]
theorem jvM : (List.range 256).map (fun _ => u8A 0) = jbo (fun _ => 0) := by unfold jbo; rfl
set_option maxHeartbeats 4000000 in
theorem jkC : Spec Tryz.prog 73 [] [] fun _ r => r = .agg (jbo classOf) := by
 refine ja5 (ja2 jal xs0 0) (fun _ _ h => h) Tryz.func73 rfl (by kernel_rfl) rfl (by kernel_rfl) ?_;intro _;conv => whnf
 refine jak [0, 1] ?_;conv => whnf
 refine jgK (fun k : Nat => [(2, .v (.int .u8 k))]) (fun k => [jbo fun _ => 0, jbo (f1 k)]) (fun _ => []) (fun k => 97 <= k /\ k <= 123) (fun k => 123 - k) 97 ?_ ⟨by omega, by omega⟩ ?_
 ·unfold jhs
  repeat' constructor
  ·show _ = [jbo _, jbo _]
   rw [<- jxH, <- jvM]; rfl
 ·rintro k ⟨hk, hk2⟩;conv => whnf
  by_cases hlt : k <= 122
  ·refine jbd (by simp; omega) ?_;conv => whnf
   refine ⟨⟨by omega, by omega⟩, ?_⟩;conv => whnf
   refine jdm (by rw [jbW]; simp; omega) ?_;conv => whnf
   refine ⟨u8r (by omega), ?_⟩;conv => whnf
   refine ⟨k + 1, jfr ?_, ⟨by omega, by omega⟩, by omega⟩;unfold jhs
   repeat' constructor
   ·exact congrArg (fun x => [jbo fun _ => 0, x]) (by
     show (jbo (f1 k)).set (0 + k * 1) (u8A 2) = _
     rw [Nat.mul_one, Nat.zero_add]; exact jyz k (by omega) (by omega))
  ·refine jaB (by simp; omega) ?_
   obtain rfl : k = 123 := by omega
   conv => whnf
   refine jak [0, 1] ?_;conv => whnf
   refine jgK (fun k : Nat => [(3, .v (.int .u8 k))]) (fun k => [jbo fun _ => 0, jbo (f2 k)]) (fun _ => []) (fun k => 48 <= k /\ k <= 58) (fun k => 58 - k) 48 ?_ ⟨by omega, by omega⟩ ?_
   ·unfold jhs
    repeat' constructor
    ·exact congrArg (fun x => [jbo fun _ => 0, x]) (jdr fun j hj => by unfold f2; rw [if_neg (by omega)])
   ·rintro k ⟨hk, hk2⟩;conv => whnf
    by_cases hlt : k <= 57
    ·refine jbd (by simp; omega) ?_;conv => whnf
     refine ⟨⟨by omega, by omega⟩, ?_⟩;conv => whnf
     refine jdm (by rw [jbW]; simp; omega) ?_;conv => whnf
     refine ⟨u8r (by omega), ?_⟩;conv => whnf
     refine ⟨k + 1, jfr ?_, ⟨by omega, by omega⟩, by omega⟩;unfold jhs
     repeat' constructor
     ·exact congrArg (fun x => [jbo fun _ => 0, x]) (by
       show (jbo (f2 k)).set (0 + k * 1) (u8A 3) = _
       rw [Nat.mul_one, Nat.zero_add]; exact jyL k (by omega) (by omega))
    ·refine jaB (by simp; omega) ?_
     obtain rfl : k = 58 := by omega
     conv => whnf
     refine jak [0, 1, 22] ?_;conv => whnf
     refine jgK (fun k : Nat => [(21, .sl 1 3 (l3.map u8A)), (23, .v (.int .i64 k))]) (fun k => [jbo fun _ => 0, jbo (f3 k)]) (fun _ => [.pub 1 3 (l3.map u8A)]) (fun k => k <= 3) (fun k => 3 - k) 0 ?_ (by omega) ?_
     ·unfold jhs
      repeat' constructor
     ·rintro k hk;conv => whnf
      by_cases hlt : k < 3
      ·have hr3 := jyo k hlt
       refine jbd (by simp; omega) ?_;conv => whnf
       refine ⟨⟨by omega, by omega⟩, ?_⟩;conv => whnf
       rw [show jae 1 (Int.toNat (k : Int)) (List.map u8A l3) = [.v (.int .u8 l3[k])] from jor l3 k hlt]
       obtain ⟨m, hm⟩ : ∃ m : Nat, (m : Int) = l3[k]'hlt := ⟨(l3[k]'hlt).toNat, by omega⟩
       rw [<- hm] at hr3 ⊢;conv => whnf
       refine ⟨⟨by omega, by omega⟩, ?_⟩;conv => whnf
       refine jdm (by rw [jbW]; simp; omega) ?_;conv => whnf
       refine ⟨jaL (by omega), ?_⟩;conv => whnf
       refine ⟨k + 1, jfr ?_, by omega, by omega⟩;unfold jhs
       repeat' constructor
       ·exact congrArg (fun x => [jbo fun _ => 0, x]) (by
         show (jbo (f3 k)).set (0 + m * 1) (u8A 1) = _
         rw [Nat.mul_one, Nat.zero_add]; exact jxm k hlt m hm)
      ·refine jaB (by simp; omega) ?_
       obtain rfl : k = 3 := by omega
       conv => whnf
       refine jak [0, 1, 32] ?_;conv => whnf
       refine jgK (fun k : Nat => [(31, .sl 1 16 (l5.map u8A)), (33, .v (.int .i64 k))]) (fun k => [jbo fun _ => 0, jbo (f5 k)]) (fun _ => [.pub 1 3 (l3.map u8A), .pub 1 16 (l5.map u8A)]) (fun k => k <= 16) (fun k => 16 - k) 0 ?_ (by omega) ?_
       ·unfold jhs
        repeat' constructor
       ·rintro k hk;conv => whnf
        by_cases hlt : k < 16
        ·have hr5 := jxS k hlt
         refine jbd (by simp; omega) ?_;conv => whnf
         refine ⟨⟨by omega, by omega⟩, ?_⟩;conv => whnf
         rw [show jae 1 (Int.toNat (k : Int)) (List.map u8A l5) = [.v (.int .u8 l5[k])] from jor l5 k hlt]
         obtain ⟨m, hm⟩ : ∃ m : Nat, (m : Int) = l5[k]'hlt := ⟨(l5[k]'hlt).toNat, by omega⟩
         rw [<- hm] at hr5 ⊢;conv => whnf
         refine ⟨⟨by omega, by omega⟩, ?_⟩;conv => whnf
         refine jdm (by rw [jbW]; simp; omega) ?_;conv => whnf
         refine ⟨jaL (by omega), ?_⟩;conv => whnf
         refine ⟨k + 1, jfr ?_, by omega, by omega⟩;unfold jhs
         repeat' constructor
         ·exact congrArg (fun x => [jbo fun _ => 0, x]) (by
           show (jbo (f5 k)).set (0 + m * 1) (u8A 5) = _
           rw [Nat.mul_one, Nat.zero_add]; exact jxo k hlt m hm)
        ·refine jaB (by simp; omega) ?_
         obtain rfl : k = 16 := by omega
         have hlen0 := jbW fun _ => 0
         have hlen5 := jbW (f5 16)
         have hfin : (jbo (f5 16)).set 35 (u8A 4) = jbo classOf := by rw [jfl]; rfl
         have hpl := jiI classOf
         have hu : unH (jbo classOf) = jbo classOf := by kernel_rfl
         generalize jbo (fun _ => 0) = L0 at *;generalize jbo (f5 16) = L5 at *;generalize jbo classOf = Lc at *;conv => whnf
         refine ⟨⟨by omega, by omega⟩, ?_⟩;conv => whnf
         refine jdm (by rw [hlen5]; simp) ?_;generalize hLs : L5.set (0 + Int.toNat 35 * _) _ = Ls
         obtain rfl : Ls = Lc := hLs.symm.trans hfin
         have hlen : Ls.length = 256 := by rw [<- hfin, List.length_set, hlen5]
         conv => whnf
         refine jjf (cs := Ls) (n := 256) (Nat.le_of_eq hlen.symm) ?_;rw [List.take_of_length_le (Nat.le_of_eq hlen)];conv => whnf
         rw [hu, hlen];conv => whnf
         refine jfY (ds := Ls) (cs := L0) [] (by rw [hlen, hlen0]) ?_;rw [List.nil_append];conv => whnf
         refine jjf (cs := Ls) (n := 256) (Nat.le_of_eq hlen.symm) ?_;rw [List.take_of_length_le (Nat.le_of_eq hlen)];conv => whnf
         rw [hu, jre hpl]
theorem jkM (f : Nat -> Int) (i : Nat) (hi : i < 256) : jae 1 i (jbo f) = [.v (.int .u8 (f i))] := by
 unfold jbo
 have := jbQ (fun j => u8A (f j)) (List.range 256) i (by simpa using hi)
 rw [this]; simp [u8A]
def jk7 (p : UInt8 -> Bool) (l : List UInt8) : Int := if jaf p l < l.length then (jaf p l : Int) else -1
theorem js0 (p : UInt8 -> Bool) (l : List UInt8) (k : Nat) (hk : k < l.length) (h : jaf p l = k + jaf p (l.drop k)) (hp : p l[k] = true) : jaf p l = k + 1 + jaf p (l.drop (k + 1)) := by
 rw [h, jfm l k hk];simp only [jaf, hp];omega
theorem jl7 (p : UInt8 -> Bool) (l : List UInt8) (k : Nat) (hk : k < l.length) (h : jaf p l = k + jaf p (l.drop k)) (hp : p l[k] = false) : jaf p l = k := by
 rw [h, jfm l k hk];simp only [jaf, hp];omega
theorem jo4 (c : UInt8) : 0 <= (c.toNat : Int) /\ (c.toNat : Int) < 256 := ⟨by omega, by have := c.toNat_lt; omega⟩
theorem jlQ (b : ByteArray) (hb : b.size <= 1000000000) : Spec Tryz.prog 78 [] [.sl 1 b.size (jbF b), .v (.int .u8 10)] fun _ r => r = jao (jk7 jeY b.data.toList) := by
 have hsl := jbv b
 refine ja5 (ja2 jal xs0 0) (fun _ _ h => h) Tryz.func78 rfl (by kernel_rfl) rfl (by kernel_rfl) ?_;intro _;conv => whnf
 refine jak [0, 1, 4, 7] ?_;conv => whnf
 refine jaJ (fun k : Nat => [(8, .v (.int .i64 k))]) (fun _ => []) (fun _ => []) (fun k => k <= b.size /\ jaf jeY b.data.toList = k + jaf jeY (b.data.toList.drop k)) (fun k => b.size - k) 0 ?_ ⟨Nat.zero_le _, by simp⟩ ?_
 ·repeat' constructor
 ·rintro k ⟨hk, hinv⟩;conv => whnf
  by_cases hlt : k < b.size
  ·refine jbd (by simp; omega) ?_;conv => whnf
   refine ⟨⟨by omega, by omega⟩, ?_⟩;conv => whnf
   rw [show jae 1 (Int.toNat (k : Int)) (jbF b) = _ from jeN b k (by omega)]
   have h1 := js0 jeY b.data.toList k (by omega) hinv
   have h2 := jl7 jeY b.data.toList k (by omega) hinv
   generalize b.data.toList[k]'(by omega) = c at *;conv => whnf
   cases hq : jeY c
   ·have hc : (c.toNat : Int) = 10 := by simpa [jeY] using hq
    refine jbd (by simp [hc]) ?_;conv => whnf
    have : jk7 jeY b.data.toList = k := by unfold jk7; rw [h2 hq, if_pos (by omega)]
    rw [this]; rfl
   ·have hc : ¬ (c.toNat : Int) = 10 := by simpa [jeY] using hq
    refine jaB (by simp; omega) ?_;conv => whnf
    refine ⟨jaL (by omega), ?_⟩;conv => whnf
    refine ⟨k + 1, jeO ?_, ⟨by omega, h1 hq⟩, by omega⟩
    repeat' constructor
  ·refine jaB (by simp; omega) ?_
   obtain rfl : k = b.size := by omega
   conv => whnf
   rw [List.drop_of_length_le (by omega)] at hinv
   have : jk7 jeY b.data.toList = -1 := by unfold jk7; rw [hinv, if_neg (by simp [jaf])]
   rw [this]; rfl
theorem jfG (l : List ByteArray) (s : ByteArray) (hl : l.length <= 1000000) : Spec Tryz.prog 116 [] [.sl 1 l.length (jdR l), .v (.string s)] fun _ r => ∃ n : Int, (-1 <= n /\ n <= 1000000) /\ decide (0 <= n) = jcF l s /\ r = jao n := by
 refine ja5 (ja2 jal xs0 0) (fun _ _ h => h) Tryz.func116 rfl (by kernel_rfl) rfl (by kernel_rfl) ?_;intro _;conv => whnf
 refine jak [0, 1, 4, 7] ?_;conv => whnf
 refine jaJ (fun k : Nat => [(8, .v (.int .i64 k))]) (fun _ => []) (fun _ => []) (fun k => k <= l.length /\ jcF (l.take k) s = false) (fun k => l.length - k) 0 ?_ ⟨Nat.zero_le _, by simp [jcF]⟩ ?_
 ·repeat' constructor
 ·rintro k ⟨hk, hinv⟩;conv => whnf
  by_cases hlt : k < l.length
  ·refine jbd (by simp; omega) ?_;conv => whnf
   refine ⟨⟨by omega, by omega⟩, ?_⟩;conv => whnf
   rw [show jae 1 (Int.toNat (k : Int)) (jdR l) = [.v (.string l[k])] from jj1 l k hlt];conv => whnf
   cases hq : decide (l[k] = s)
   ·refine jaB (by rw [<- hq]; exact decide_eq_decide.2 eq_comm) ?_;conv => whnf
    refine ⟨jaL (by omega), ?_⟩;conv => whnf
    refine ⟨k + 1, jeO ?_, ⟨hlt, by rw [jqS l s k hlt, hinv, hq]; rfl⟩, by omega⟩
    repeat' constructor
   ·refine jbd (by rw [<- hq]; exact decide_eq_decide.2 eq_comm) ?_;conv => whnf
    have : jcF l s = true := List.any_eq_true.2 ⟨l[k], List.getElem_mem hlt, hq⟩
    exact ⟨k, by omega, by rw [this]; simp, rfl⟩
  ·refine jaB (by simp; omega) ?_
   obtain rfl : k = l.length := by omega
   rw [List.take_length] at hinv;conv => whnf
   exact ⟨-1, by omega, by rw [hinv]; rfl, rfl⟩
theorem jjr (l : List ByteArray) (s : ByteArray) (hl : l.length <= 1000000) : Spec Tryz.prog 82 [] [.sl 1 l.length (jdR l), .v (.string s)] fun _ r => r = jbI (jcF l s) := by
 refine ja5 (ja2 jal xs0 0) (fun _ _ h => h) Tryz.func82 rfl (by kernel_rfl) rfl (by kernel_rfl) ?_;intro _;conv => whnf
 refine ja9 [] rfl (fun _ => jfG l s hl) ?_;rintro r ⟨n, hn, hq, rfl⟩;conv => whnf
 rw [hq]; rfl
theorem jmz (k : Int) : Spec Tryz.prog 79 [] [.v (.int .u8 k)] fun _ r => r = jbI (decide (k = 2) || decide (k = 3)) := by
 refine ja5 (ja2 jal xs0 0) (fun _ _ h => h) Tryz.func79 rfl (by kernel_rfl) rfl (by kernel_rfl) ?_;intro _;conv => whnf
 cases h : decide (k = 2)
 ·conv => whnf
  simp [jbI, h]
 ·conv => whnf
  simp [jbI, h]
theorem joY (k : Int) : Spec Tryz.prog 80 [] [.v (.int .u8 k)] fun _ r => r = jbI (decide (k = 3)) := by
 refine ja5 (ja2 jal xs0 0) (fun _ _ h => h) Tryz.func80 rfl (by kernel_rfl) rfl (by kernel_rfl) ?_;intro _;conv => whnf
 rfl
def jiV (p : Int -> Bool) (c : UInt8) : Bool := p (classOf c.toNat)
theorem joZ (f : Nat) (p : Int -> Bool) (hf : ∀ k, Spec Tryz.prog f [] [.v (.int .u8 k)] fun _ r => r = jbI (p k)) (c : UInt8) :
  Spec Tryz.prog 77 [[.clo f []]] [.v (.int .u8 (c.toNat : Int)), .box 0 0, .pp (jbo classOf)] fun outs r => outs = [[.clo f []]] /\ r = jbI (!jiV p c) := by
 have hc := jo4 c
 obtain ⟨L, hL⟩ : ∃ L, L = jbo classOf := ⟨_, rfl⟩
 rw [<- hL];refine ja5 (ja2 jzX xs0 1) (fun _ _ h => h) Tryz.func77 rfl (by kernel_rfl) rfl (by kernel_rfl) ?_;intro _;conv => whnf
 refine ⟨⟨by omega, by omega⟩, ?_⟩;generalize hq : jae _ (Int.toNat (c.toNat : Int)) L = q
 obtain rfl : q = [.v (.int .u8 (classOf c.toNat))] := by rw [<- hq, hL]; exact jkM classOf c.toNat (by omega)
 conv => whnf
 refine ja9 [] rfl (fun _ => hf _) ?_;rintro r rfl;conv => whnf
 exact ⟨rfl, rfl⟩
theorem jlk (f : Nat) (p : Int -> Bool) (hf : ∀ k, Spec Tryz.prog f [] [.v (.int .u8 k)] fun _ r => r = jbI (p k)) (b : ByteArray) (hb : b.size <= 1000000000) :
  Spec Tryz.prog 76 [[.clo f []]] [.sl 1 b.size (jbF b), .clo 77 [.box 0 0, .pp (jbo classOf)]] fun outs r => outs = [[.clo f []]] /\ r = jao (jk7 (jiV p) b.data.toList) := by
 have hsl := jbv b
 have hno := joZ f p hf
 obtain ⟨L, hL⟩ : ∃ L, L = jbo classOf := ⟨_, rfl⟩
 rw [<- hL] at hno ⊢;refine ja5 (ja2 jal xs0 1) (fun _ _ h => h) Tryz.func76 rfl (by kernel_rfl) rfl (by kernel_rfl) ?_;intro _;conv => whnf
 refine jak [0, 1, 4, 7] ?_;conv => whnf
 refine jaJ (fun k : Nat => [(8, .v (.int .i64 k))]) (fun _ => [[.clo f []]]) (fun _ => []) (fun k => k <= b.size /\ jaf (jiV p) b.data.toList = k + jaf (jiV p) (b.data.toList.drop k)) (fun k => b.size - k) 0 ?_ ⟨Nat.zero_le _, by simp⟩ ?_
 ·repeat' constructor
 ·rintro k ⟨hk, hinv⟩;conv => whnf
  by_cases hlt : k < b.size
  ·refine jbd (by simp; omega) ?_;conv => whnf
   refine ⟨⟨by omega, by omega⟩, ?_⟩;conv => whnf
   rw [show jae 1 (Int.toNat (k : Int)) (jbF b) = _ from jeN b k (by omega)]
   have h1 := js0 (jiV p) b.data.toList k (by omega) hinv
   have h2 := jl7 (jiV p) b.data.toList k (by omega) hinv
   generalize b.data.toList[k]'(by omega) = c at *;conv => whnf
   refine jaa 0 [] rfl rfl rfl rfl (fun _ => hno c) ?_;rintro o r ⟨ho, rfl⟩
   obtain rfl : o = [.clo f []] := by simpa using ho
   conv => whnf
   cases hq : jiV p c
   ·conv => whnf
    have : jk7 (jiV p) b.data.toList = k := by unfold jk7; rw [h2 hq, if_pos (by omega)]
    rw [this];exact ⟨rfl, rfl⟩
   ·conv => whnf
    refine ⟨jaL (by omega), ?_⟩;conv => whnf
    refine ⟨k + 1, jeO ?_, ⟨by omega, h1 hq⟩, by omega⟩
    repeat' constructor
  ·refine jaB (by simp; omega) ?_
   obtain rfl : k = b.size := by omega
   conv => whnf
   rw [List.drop_of_length_le (by omega)] at hinv
   have : jk7 (jiV p) b.data.toList = -1 := by unfold jk7; rw [hinv, if_neg (by simp [jaf])]
   rw [this];exact ⟨rfl, rfl⟩
theorem jkK (f : Nat) (p : Int -> Bool) (hf : ∀ k, Spec Tryz.prog f [] [.v (.int .u8 k)] fun _ r => r = jbI (p k)) (b : ByteArray) (hb : b.size <= 1000000000) :
  Spec Tryz.prog 75 [] [.clo f [], .pp [.v (.string b)], .pp (jbo classOf)] fun _ r => r = jao (jaf (jiV p) b.data.toList : Nat) := by
 have hsl := jbv b
 have hidx := jlk f p hf b hb
 have hle := jci (jiV p) b.data.toList
 obtain ⟨L, hL⟩ : ∃ L, L = jbo classOf := ⟨_, rfl⟩
 rw [<- hL] at hidx ⊢;refine ja5 (ja2 jal xs0 0) (fun _ _ h => h) Tryz.func75 rfl (by kernel_rfl) rfl (by kernel_rfl) ?_;intro _;conv => whnf
 refine jaa 0 [] rfl rfl rfl rfl (fun _ => hidx) ?_;rintro o r ⟨ho, rfl⟩
 obtain rfl : o = [.clo f []] := by simpa using ho
 conv => whnf
 by_cases hlt : jaf (jiV p) b.data.toList < b.data.toList.length
 ·have hv : jk7 (jiV p) b.data.toList = (jaf (jiV p) b.data.toList : Nat) := by unfold jk7; rw [if_pos hlt]
  generalize jk7 (jiV p) b.data.toList = v at *;refine jaB (b := decide (v < 0)) (decide_eq_false (by omega)) ?_;conv => whnf
  rw [hv]; rfl
 ·have hv : jk7 (jiV p) b.data.toList = -1 := by unfold jk7; rw [if_neg hlt]
  generalize jk7 (jiV p) b.data.toList = v at *;refine jbd (b := decide (v < 0)) (decide_eq_true (by omega)) ?_;conv => whnf
  have : jaf (jiV p) b.data.toList = b.size := by omega
  rw [this];rfl
theorem jrv (c : UInt8) : jiV (fun k => decide (k = 2) || decide (k = 3)) c = jbu c := by
 have : ∀ n : Fin 256, (decide (classOf n.val = 2) || decide (classOf n.val = 3)) = ((decide (97 <= (n.val : Int)) && decide ((n.val : Int) <= 122)) || (decide (48 <= (n.val : Int)) && decide ((n.val : Int) <= 57))) := by decide +kernel
 exact this ⟨c.toNat, c.toNat_lt⟩
theorem jov (c : UInt8) : jiV (fun k => decide (k = 3)) c = isD c := by
 have : ∀ n : Fin 256, decide (classOf n.val = 3) = (decide (48 <= (n.val : Int)) && decide ((n.val : Int) <= 57)) := by decide +kernel
 exact this ⟨c.toNat, c.toNat_lt⟩
theorem jhZ {p q : UInt8 -> Bool} (h : ∀ c, p c = q c) (l : List UInt8) : jaf p l = jaf q l := by
 have : p = q := funext h
 rw [this]
theorem js5 (b : ByteArray) (hb : b.size <= 1000000000) : Spec Tryz.prog 75 [] [.clo 79 [], .pp [.v (.string b)], .pp (jbo classOf)] fun _ r => r = jao (jaf jbu b.data.toList : Nat) := by
 have := jkK _ _ jmz b hb
 rw [jhZ jrv] at this;exact this
theorem jsA (b : ByteArray) (hb : b.size <= 1000000000) : Spec Tryz.prog 75 [] [.clo 80 [], .pp [.v (.string b)], .pp (jbo classOf)] fun _ r => r = jao (jaf isD b.data.toList : Nat) := by
 have := jkK _ _ joY b hb
 rw [jhZ jov] at this;exact this
theorem jxF (c : UInt8) : decide (classOf c.toNat = 1) = jpz c := by
 have : ∀ n : Fin 256, decide (classOf n.val = 1) = ((decide ((n.val : Int) = 32) || decide ((n.val : Int) = 9)) || decide ((n.val : Int) = 10)) := by decide +kernel
 exact this ⟨c.toNat, c.toNat_lt⟩
theorem jtH (c : UInt8) : decide (classOf c.toNat = 4) = jcf c := by
 have : ∀ n : Fin 256, decide (classOf n.val = 4) = decide ((n.val : Int) = 35) := by decide +kernel
 exact this ⟨c.toNat, c.toNat_lt⟩
theorem jAQ (c : UInt8) : decide (classOf c.toNat = 2) = isL c := by
 have : ∀ n : Fin 256, decide (classOf n.val = 2) = (decide (97 <= (n.val : Int)) && decide ((n.val : Int) <= 122)) := by decide +kernel
 exact this ⟨c.toNat, c.toNat_lt⟩
theorem jzy (c : UInt8) : decide (classOf c.toNat = 3) = isD c := jov c
theorem jxu {a b : List UInt8} (h : bs a = bs b) : a = b := by
 have := congrArg (fun x : ByteArray => x.data.toList) h
 simpa [bs] using this
theorem jy8 (c : UInt8) : decide (classOf c.toNat = 5) = jcF jpH (bs [c]) := by
 have : ∀ n : Fin 256, decide (classOf n.val = 5) = jcF jpH (bs [UInt8.ofNat n.val]) := by decide +kernel
 have h := this ⟨c.toNat, c.toNat_lt⟩
 simpa using h
end Go.Proofs.YtmodkpibkkpcdaaGreatDoor.Vm
namespace Go.Proofs.YtmodkpibkkpcdaaGreatDoor.Vm
open Go.RowKit Go.Shelf
set_option linter.unusedSimpArgs false
set_option linter.unusedVariables false
set_option maxRecDepth 100000
def puR (l : List UInt8) : A := if jgy 0 l < 0 then .tup [.v (.int .u64 2147483647), .v (.iface 164 (.int .i64 1))] else .tup [.v (.int .u64 (jgy 0 l)), .v .nilIface]
theorem jwH {n : Int} (h : 0 <= n /\ n <= 18446744073709551615) : lo .u64 <= n /\ n <= hi .u64 := h
theorem jpA (s : ByteArray) (hs : s.size <= 1000000000) (hs1 : 1 <= s.size) (hd : ∀ c ∈ s.data.toList, isD c = true) :
  Spec Tryz.prog 114 [] [.v (.string s), .v (.int .i64 10), .v (.int .i64 31)] fun _ r => r = puR s.data.toList := by
 have hsl := jbv s
 refine ja5 (ja2 jal xs0 0) (fun _ _ h => h) Tryz.func114 rfl (by kernel_rfl) rfl (by kernel_rfl) ?_;intro _;conv => whnf
 refine jaB (decide_eq_false fun e => by have h0 : s.size = 0 := (congrArg ByteArray.size e).trans rfl; omega) ?_;conv => whnf
 refine ⟨jwH (by omega), ?_⟩;conv => whnf
 refine ⟨⟨by omega, by decide⟩, ?_⟩;rw [show (1 : Int) * 2 ^ (Int.toNat 31) = 2147483648 from by decide];conv => whnf
 refine ⟨jwH (by omega), ?_⟩;conv => whnf
 refine ⟨jwH (by omega), ?_⟩;conv => whnf
 refine jak [0, 1, 8, 9, 10, 11, 12, 99, 100] ?_;conv => whnf
 refine jaJ (fun x : Nat × Int => [(13, .v (.int .u64 x.2)), (101, .v (.int .i64 x.1))]) (fun _ => []) (fun _ => []) (fun x => x.1 <= s.size /\ 0 <= x.2 /\ x.2 <= 2147483647 /\ jgy x.2 (s.data.toList.drop x.1) = jgy 0 s.data.toList) (fun x => s.size - x.1) (0, 0) ?_ ⟨Nat.zero_le _, by simp, by simp, by simp⟩ ?_
 ·repeat' constructor
 ·rintro ⟨j, v⟩ ⟨hj, hv0, hv1, hinv⟩
  simp only at hj hv0 hv1 hinv
  conv => whnf
  by_cases hlt : j < s.size
  ·refine jbd (by simp; omega) ?_;conv => whnf
   refine ⟨⟨by omega, by omega⟩, ?_⟩;conv => whnf
   rw [show jae 1 (Int.toNat (j : Int)) (jbF s) = _ from jeN s j (by omega)]
   have hdj := hd _ (List.getElem_mem (l := s.data.toList) (n := j) (by omega))
   have hdr := jfm s.data.toList j (by omega)
   generalize hc : s.data.toList[j]'(by omega) = c at *
   have hr := jwm hdj
   conv => whnf
   rw [show decide ((c.toNat : Int) = 95) = false from decide_eq_false (by omega)];conv => whnf
   rw [show decide ((48 : Int) <= (c.toNat : Int)) = true from decide_eq_true (by omega)];conv => whnf
   rw [show decide ((c.toNat : Int) <= 57) = true from decide_eq_true (by omega)];conv => whnf
   refine ⟨u8r (by omega), ?_⟩;conv => whnf
   refine ⟨u8r (by omega), ?_⟩;conv => whnf
   rw [show decide ((10 : Int) <= (c.toNat : Int) - 48) = false from decide_eq_false (by omega)];conv => whnf
   refine jaB (b := decide ((1844674407370955162 : Int) <= v)) (decide_eq_false (by omega)) ?_;conv => whnf
   refine ⟨jwH (by omega), ?_⟩;conv => whnf
   refine ⟨jwH (by omega), ?_⟩;conv => whnf
   refine ⟨jwH (by omega), ?_⟩;conv => whnf
   refine ⟨jwH (by omega), ?_⟩;conv => whnf
   rw [show decide (v * 10 + ((c.toNat : Int) - 48) < v * 10) = false from decide_eq_false (by omega)];conv => whnf
   have hst : jgy v (s.data.toList.drop j) = if 2147483647 < 10 * v + (c.toNat : Int) - 48 then -1 else jgy (10 * v + (c.toNat : Int) - 48) (s.data.toList.drop (j + 1)) := by rw [hdr]; rfl
   have hv2 : v * 10 + ((c.toNat : Int) - 48) = 10 * v + (c.toNat : Int) - 48 := by omega
   by_cases hbig : 2147483647 < 10 * v + (c.toNat : Int) - 48
   ·rw [if_pos hbig] at hst
    have hf : jgy 0 s.data.toList < 0 := by rw [<- hinv, hst]; decide
    refine jbd (b := decide ((2147483647 : Int) < v * 10 + ((c.toNat : Int) - 48))) (decide_eq_true (by omega)) ?_;conv => whnf
    unfold puR;rw [if_pos hf]; rfl
   ·rw [if_neg hbig] at hst;refine jaB (b := decide ((2147483647 : Int) < v * 10 + ((c.toNat : Int) - 48))) (decide_eq_false (by omega)) ?_;conv => whnf
    refine ⟨jaL (by omega), ?_⟩;conv => whnf
    refine ⟨(j + 1, v * 10 + ((c.toNat : Int) - 48)), jeO ?_, ⟨by simp only; omega, by simp only; omega, by simp only; omega, by simp only; rw [hv2, <- hst, hinv]⟩, by simp only; omega⟩
    repeat' constructor
  ·refine jaB (by simp; omega) ?_;rw [List.drop_of_length_le (by omega)] at hinv
   have hf : jgy 0 s.data.toList = v := by rw [<- hinv]; rfl
   conv => whnf
   unfold puR;rw [hf, if_neg (by omega)]
def jfV : Go.Shelf.Ren := ⟨fun | 17 => 115 | 21 => 135 | 22 => 136 | 23 => 137 | 24 => 138 | 25 => 174 | 26 => 175 | 27 => 51 | 28 => 88 | 29 => 119 | 30 => 141 | 31 => 142 | 32 => 143 | 33 => 144 | 34 => 176 | 35 => 173 | 36 => 177 | 37 => 178 | 38 => 179 | 39 => 191 | 40 => 192 | n => n, fun | 22 => 128 | 24 => 130 | 34 => 164 | 36 => 163 | 37 => 69 | 39 => 166 | 44 => 196 | 47 => 140 | 48 => 208 | 50 => 210 | 52 => 172 | 55 => 175 | 59 => 199 | 60 => 193 | 61 => 200 | 65 => 217 | 66 => 218 | 67 => 99 | n => n, fun | 2 => 3 | 3 => 4 | 4 => 5 | n => n⟩
theorem jjC : LaysPu.n17 Tryz.prog jfV where
 mixed := by kernel_rfl
 f17 := Tryz.func115.trans (congrArg some (by kernel_rfl))
 f21 := Tryz.func135.trans (congrArg some (by kernel_rfl))
 f22 := Tryz.func136.trans (congrArg some (by kernel_rfl))
 f23 := Tryz.func137.trans (congrArg some (by kernel_rfl))
 f24 := Tryz.func138.trans (congrArg some (by kernel_rfl))
 f25 := Tryz.func174.trans (congrArg some (by kernel_rfl))
 f26 := Tryz.func175.trans (congrArg some (by kernel_rfl))
 f27 := Tryz.func51.trans (congrArg some (by kernel_rfl))
 f28 := Tryz.func88.trans (congrArg some (by kernel_rfl))
 f29 := Tryz.func119.trans (congrArg some (by kernel_rfl))
 f30 := Tryz.func141.trans (congrArg some (by kernel_rfl))
 f31 := Tryz.func142.trans (congrArg some (by kernel_rfl))
 f32 := Tryz.func143.trans (congrArg some (by kernel_rfl))
 f33 := Tryz.func144.trans (congrArg some (by kernel_rfl))
 f34 := Tryz.func176.trans (congrArg some (by kernel_rfl))
 f35 := Tryz.func173.trans (congrArg some (by kernel_rfl))
 f36 := Tryz.func177.trans (congrArg some (by kernel_rfl))
 f37 := Tryz.func178.trans (congrArg some (by kernel_rfl))
 f38 := Tryz.func179.trans (congrArg some (by kernel_rfl))
 f39 := Tryz.func191.trans (congrArg some (by kernel_rfl))
 f40 := Tryz.func192.trans (congrArg some (by kernel_rfl))
 t0 := Tryz.underlying0
 a0 := Tryz.isAgg0
 z0 := Tryz.sizeOf0
 v0 := Tryz.zeroValue0
 i0 := by kernel_rfl
 t2 := Tryz.underlying2
 a2 := Tryz.isAgg2
 z2 := Tryz.sizeOf2
 v2 := Tryz.zeroValue2
 i2 := by kernel_rfl
 t3 := Tryz.underlying3
 a3 := Tryz.isAgg3
 z3 := Tryz.sizeOf3
 v3 := Tryz.zeroValue3
 i3 := by kernel_rfl
 t4 := Tryz.underlying4
 a4 := Tryz.isAgg4
 z4 := Tryz.sizeOf4
 v4 := Tryz.zeroValue4
 i4 := by kernel_rfl
 t5 := Tryz.underlying5
 a5 := Tryz.isAgg5
 z5 := Tryz.sizeOf5
 v5 := Tryz.zeroValue5
 i5 := by kernel_rfl
 t9 := Tryz.underlying9
 a9 := Tryz.isAgg9
 z9 := Tryz.sizeOf9
 v9 := Tryz.zeroValue9
 i9 := by kernel_rfl
 t20 := Tryz.underlying20
 a20 := Tryz.isAgg20
 z20 := Tryz.sizeOf20
 v20 := Tryz.zeroValue20
 i20 := by kernel_rfl
 t22 := Tryz.underlying128
 a22 := Tryz.isAgg128
 z22 := Tryz.sizeOf128
 v22 := Tryz.zeroValue128
 i22 := by kernel_rfl
 t24 := Tryz.underlying130
 a24 := Tryz.isAgg130
 z24 := Tryz.sizeOf130
 v24 := Tryz.zeroValue130
 i24 := by kernel_rfl
 t34 := Tryz.underlying164
 a34 := Tryz.isAgg164
 z34 := Tryz.sizeOf164
 v34 := Tryz.zeroValue164
 i34 := by kernel_rfl
 c34 := by kernel_rfl
 t36 := Tryz.underlying163
 a36 := Tryz.isAgg163
 z36 := Tryz.sizeOf163
 v36 := Tryz.zeroValue163
 i36 := by kernel_rfl
 t37 := Tryz.underlying69
 a37 := Tryz.isAgg69
 z37 := Tryz.sizeOf69
 v37 := Tryz.zeroValue69
 i37 := by kernel_rfl
 t39 := Tryz.underlying166
 a39 := Tryz.isAgg166
 z39 := Tryz.sizeOf166
 v39 := Tryz.zeroValue166
 i39 := by kernel_rfl
 t44 := Tryz.underlying196
 a44 := Tryz.isAgg196
 z44 := Tryz.sizeOf196
 v44 := Tryz.zeroValue196
 i44 := by kernel_rfl
 t47 := Tryz.underlying140
 a47 := Tryz.isAgg140
 z47 := Tryz.sizeOf140
 v47 := Tryz.zeroValue140
 i47 := by kernel_rfl
 t48 := Tryz.underlying208
 a48 := Tryz.isAgg208
 z48 := Tryz.sizeOf208
 v48 := Tryz.zeroValue208
 i48 := by kernel_rfl
 t50 := Tryz.underlying210
 a50 := Tryz.isAgg210
 z50 := Tryz.sizeOf210
 v50 := Tryz.zeroValue210
 i50 := by kernel_rfl
 t52 := Tryz.underlying172
 a52 := Tryz.isAgg172
 z52 := Tryz.sizeOf172
 v52 := Tryz.zeroValue172
 i52 := by kernel_rfl
 t55 := Tryz.underlying175
 a55 := Tryz.isAgg175
 z55 := Tryz.sizeOf175
 v55 := Tryz.zeroValue175
 i55 := by kernel_rfl
 t59 := Tryz.underlying199
 a59 := Tryz.isAgg199
 z59 := Tryz.sizeOf199
 v59 := Tryz.zeroValue199
 i59 := by kernel_rfl
 t60 := Tryz.underlying193
 a60 := Tryz.isAgg193
 z60 := Tryz.sizeOf193
 v60 := Tryz.zeroValue193
 i60 := by kernel_rfl
 t61 := Tryz.underlying200
 a61 := Tryz.isAgg200
 z61 := Tryz.sizeOf200
 t65 := Tryz.underlying217
 a65 := Tryz.isAgg217
 z65 := Tryz.sizeOf217
 v65 := Tryz.zeroValue217
 i65 := by kernel_rfl
 t66 := Tryz.underlying218
 a66 := Tryz.isAgg218
 z66 := Tryz.sizeOf218
 v66 := Tryz.zeroValue218
 i66 := by kernel_rfl
 t67 := Tryz.underlying99
 a67 := Tryz.isAgg99
 z67 := Tryz.sizeOf99
 v67 := Tryz.zeroValue99
 i67 := by kernel_rfl
 g0 := by kernel_rfl
 m0 := by kernel_rfl
 g1 := by kernel_rfl
 m1 := by kernel_rfl
 g2 := by kernel_rfl
 m2 := by kernel_rfl
 g3 := by kernel_rfl
 m3 := by kernel_rfl
 g4 := by kernel_rfl
 m4 := by kernel_rfl

theorem jg2 {E : Env} : ∀ {l us : List Value}, A.repL (l.map .v) E us -> us = l
 | [], us, h => by unfold A.repL at h; exact h
 | x :: r, us, h => by
  simp only [List.map_cons] at h;unfold A.repL at h
  obtain ⟨u, us', rfl, h1, h2⟩ := h
  rw [(A.rep_v_iff.1 h1).1, jg2 h2]
theorem jlw (fn s : ByteArray) (hs : s.size <= 1000000000) : Spec Tryz.prog 115 [] [.v (.string fn), .v (.string s), .v (.int .i64 10), .v (.int .i64 31), .v (.iface 164 (.int .i64 1))] fun _ r => r = .err := by
 refine jgU (jeP Tryz.func115 rfl (by kernel_rfl)) fun w C vals h0 h1 h2 => ?_
 obtain rfl := jg2 (l := [.string fn, .string s, .int .i64 10, .int .i64 31, .iface 164 (.int .i64 1)]) h2
 have hg := h0.at (g := 1) (cs := [.err]) rfl
 simp only [A.repAt, A.rep] at hg
 obtain ⟨⟨u, k1, k2, t, v, rfl⟩, -⟩ := hg
 refine (AnyPu.strconv_toError_range jjC fn s 10 31 _ w (by omega) (h1 _ _ k1) (.inr ⟨t, v, rfl⟩)).mono ?_;rintro e w' ⟨n, rfl, k3, k4, k5⟩;exact ⟨_, rfl, k5, by unfold A.rep; exact ⟨_, _, rfl⟩⟩
theorem jww (s : ByteArray) (hs : s.size <= 1000000000) (hs1 : 1 <= s.size) (hd : ∀ c ∈ s.data.toList, isD c = true) :
  Spec Tryz.prog 81 [] [.v (.string s), .v (.int .i64 10), .v (.int .i64 31)] fun _ r => r = if jgy 0 s.data.toList < 0 then .tup [.v (.int .u64 2147483647), .err] else .tup [.v (.int .u64 (jgy 0 s.data.toList)), .v .nilIface] := by
 have hpu := jpA s hs hs1 hd
 unfold puR at hpu;refine ja5 (ja2 jal xs0 0) (fun _ _ h => h) Tryz.func81 rfl (by kernel_rfl) rfl (by kernel_rfl) ?_;intro _;conv => whnf
 refine ja9 [] rfl (fun _ => hpu) ?_;rintro r rfl;generalize jgy 0 s.data.toList = v at *
 by_cases hv : v < 0
 ·rw [if_pos hv, if_pos hv];conv => whnf
  refine ja9 [] rfl (fun _ => jlw _ s hs) ?_;rintro r rfl;conv => whnf
 ·rw [if_neg hv, if_neg hv];conv => whnf
end Go.Proofs.YtmodkpibkkpcdaaGreatDoor.Vm
namespace Go.Proofs.YtmodkpibkkpcdaaGreatDoor.Vm
open Go.RowKit
set_option linter.unusedSimpArgs false
set_option linter.unusedVariables false
theorem jAP {d : Prop} {i : Decidable d} {p q : Unit -> Prop} (h : Tab.get.match_1 (fun _ => Prop) (@decide d i) p q) : Tab.get.match_1 (fun _ => Prop) (@decide d i) p q := h
theorem jAy {d : Prop} {i : Decidable d} {p q : Unit -> Prop} (h : Tab.get.match_1 (fun _ => Prop) (!@decide d i) p q) : Tab.get.match_1 (fun _ => Prop) (!@decide d i) p q := h
theorem jzL {d : Prop} {i : Decidable d} {b : Bool} {p q : Unit -> Prop} (h : Tab.get.match_1 (fun _ => Prop) (@decide d i && b) p q) : Tab.get.match_1 (fun _ => Prop) (@decide d i && b) p q := h
theorem jzN {d : Prop} {i : Decidable d} {b : Bool} {p q : Unit -> Prop} (h : Tab.get.match_1 (fun _ => Prop) (!(@decide d i && b)) p q) : Tab.get.match_1 (fun _ => Prop) (!(@decide d i && b)) p q := h
theorem jAL {d : Prop} {i : Decidable d} {b : Bool} {p q : Unit -> Prop} (h : Tab.get.match_1 (fun _ => Prop) (@decide d i == b) p q) : Tab.get.match_1 (fun _ => Prop) (@decide d i == b) p q := h
theorem jzE {d : Prop} {i : Decidable d} {b : Bool} {p q : Unit -> Prop} (h : Tab.get.match_1 (fun _ => Prop) (!(@decide d i == b)) p q) : Tab.get.match_1 (fun _ => Prop) (!(@decide d i == b)) p q := h
theorem jAd {b c : Bool} {p q : Unit -> Prop} (h : Tab.get.match_1 (fun _ => Prop) (!(b && c)) p q) : Tab.get.match_1 (fun _ => Prop) (!(b && c)) p q := h
theorem jAG {b c : Bool} {p q : Unit -> Prop} (h : Tab.get.match_1 (fun _ => Prop) (b && c) p q) : Tab.get.match_1 (fun _ => Prop) (b && c) p q := h
theorem jyi {c : Bool} {p q : Prop} (h : ifK c p q) : ifK c p q := h
theorem joC {n : Nat} (h : n <= 100000000000000) : n <= maxLen := by unfold maxLen; omega
theorem jBh {α : Sort _} {x y : α} (h : x = y) : x = y := h
structure Tag (q : Prop) : Prop where
 t : True
structure jA6 (q : Prop) : Prop where
 un : q
theorem goA {p q : Prop} (hq : q) (k : jA6 q -> p := by intro hq; (repeat (first | ((with_reducible refine And.intro ?_ ?_); (focus (first | omega | (with_reducible refine jaL ?_; (first | omega | (simp only [List.length_append, List.length_cons, List.length_nil, List.length_map, ByteArray.size_append]; omega) | (dsimp only; omega))) | (with_reducible refine joC ?_; (first | omega | (simp only [List.length_append, List.length_cons, List.length_nil, List.length_map, ByteArray.size_append]; omega) | (dsimp only; omega))) | ((fail_if_success (with_reducible refine joC ?_)); decide) | (simp only [List.length_append, List.length_cons, List.length_nil, List.length_map, ByteArray.size_append]; omega) | (dsimp only; omega) | ((with_reducible refine jaL ?_); dsimp only; omega))); (conv => whnf)) | ((first | with_reducible refine jAP ?_ | with_reducible refine jAy ?_ | with_reducible refine jzL ?_ | with_reducible refine jzN ?_ | with_reducible refine jAL ?_ | with_reducible refine jzE ?_ | with_reducible refine jAd ?_ | with_reducible refine jAG ?_ | with_reducible refine jyi ?_); first | ((focus (rw [decide_eq_true]; rotate_left; focus (first | (first | omega | (simp only [List.length_append, List.length_cons, List.length_nil, List.length_map, ByteArray.size_append]; omega) | (dsimp only; omega)) | ((with_reducible refine jBh ?_); rfl)))); (first | with_reducible refine jbd rfl ?_ | with_reducible refine jaB rfl ?_ | skip); (conv => whnf)) | ((focus (rw [decide_eq_false]; rotate_left; focus (first | (first | omega | (simp only [List.length_append, List.length_cons, List.length_nil, List.length_map, ByteArray.size_append]; omega) | (dsimp only; omega)) | (intro h; cases h; done)))); (first | with_reducible refine jbd rfl ?_ | with_reducible refine jaB rfl ?_ | skip); (conv => whnf))))); all_goals exact hq.un) (d : Tag q := by first | exact (Tag.mk trivial : Tag True) | exact Tag.mk trivial) : p := k ⟨hq⟩
end Go.Proofs.YtmodkpibkkpcdaaGreatDoor.Vm
namespace Go.Proofs.YtmodkpibkkpcdaaGreatDoor.Vm
open Go.RowKit Go.Shelf
set_option linter.unusedSimpArgs false
set_option linter.unusedVariables false
set_option maxRecDepth 100000
def jwL : Nat -> List UInt8 -> Nat
 | n, [] => n
 | n, c :: r => jwL (10 * n + (c.toNat - 48)) r
def jsD (l : List UInt8) : Bool := l.all isD
def jm8 (l : List UInt8) : Prop := ∀ k, k <= l.length -> jsD (l.take k) = true -> jwL 0 (l.take k) <= 99999999999
def jp4 (s : ByteArray) : ByteArray × Bool := match s.data.toList with
 | [] => (s, false)
 | c :: r => if c = 118 then (bs r, true) else (s, false)
theorem jtF {s : ByteArray} (h : s.data.toList = []) : jp4 s = (s, false) := by unfold jp4; rw [h]
theorem jxw {s : ByteArray} {r : List UInt8} (h : s.data.toList = 118 :: r) : jp4 s = (bs r, true) := by unfold jp4; rw [h]; rfl
theorem jqz {s : ByteArray} {c : UInt8} {r : List UInt8} (h : s.data.toList = c :: r) (hc : c ≠ 118) : jp4 s = (s, false) := by unfold jp4; rw [h]; exact if_neg hc
end Go.Proofs.YtmodkpibkkpcdaaGreatDoor.Vm
namespace Go.Proofs.YtmodkpibkkpcdaaGreatDoor.Vm
open Go.RowKit
set_option linter.unusedSimpArgs false
set_option linter.unusedVariables false
set_option maxRecDepth 100000
def jzm (rows : List Row) (bx : List (List A)) (a : A) : Option A := match ren [] rows a with
 | some a' => some a'
 | none => match a with
  | .box b off => match bx[b]? with
   | some cs => match jcC [] rows (cs.drop off) with
    | some cs' => some (.pp (unH cs'))
    | none => none
   | none => none
  | _ => none
def jkt (rows : List Row) (bx : List (List A)) : List A -> Option (List A)
 | [] => some []
 | a :: r => match jzm rows bx a with
  | some a' => match jkt rows bx r with
   | some r' => some (a' :: r')
   | none => none
  | none => none
def jA5 (c : Cx) (rv : List ResultVar) (post : List (List A) -> A -> Prop) (s : S) : Prop :=
 jz7 c.T s rv fun r => match r with
  | .clo f caps => match jkt (ja3 s.rw (jmP caps)) s.bx caps with
   | some caps' => post [] (.clo f caps')
   | none => False
  | _ => False
def jB9 (c : Cx) (rv : List ResultVar) (post : List (List A) -> A -> Prop) (e : Exit) (s : S) : Prop :=
 match e with
 | .ret => jA5 c rv post s
 | .normal => jA5 c rv post s
 | _ => False
theorem jmC {c : Cx} {f : Nat} {fn : Func} {x : Code} {args : List A} {post : List (List A) -> A -> Prop} (hc : c.ok) (hf : c.P.funcs[f]? = some fn) (hb : fn.body = some x) (hname : (fn.name == "runtime.NumGoroutine") = false)
  (hn : c.np = 0) (hq : ∀ ch s, ¬ c.pan ch s) (hord : jbT c.ord x = true) (h : okL args -> jdU args (fn.ntmps - args.length) fun t => awp c x ⟨t, [], []⟩ (jB9 c fn.results.toList post)) : Spec c.P f [] args post := by
 refine ⟨jdu hf hb hname, fun w C β vals h0 h1 h2 h3 h4 h5 h6 => ?_⟩
 have hβ : β = [] := List.eq_nil_of_length_eq_zero (by simpa using h4.symm)
 subst hβ
 have hl := A.repL_len h6
 refine calls_of_wp hf hb ?_
 have hinit := initK_iff.1 (h (jbz _ h6))
 have hinv : Inv [] (.of w) C [] ⟨args ++ List.replicate (fn.ntmps - args.length) .dead, [], []⟩ { tmps := vals.toArray ++ Array.replicate (fn.ntmps - vals.toArray.size) undef, defers := [] } w := by
  refine ⟨⟨C, [], []⟩, ⟨h1, Sub.refl _, fun _ _ hc => .inl hc, ⟨[], by simp, by simp⟩, h2, h3, h4, h5, rfl, fun g r y hg => by simp at hg, fun g e k n cs y b hg => by simp at hg, fun g e k n cs y h' e' k' n' cs' z b _ hg => by simp at hg, fun g y hg => by simp at hg, Keeps.refl _ _, jxa h0⟩, ?_, rfl⟩
  have : (vals.toArray ++ Array.replicate (fn.ntmps - vals.toArray.size) undef).toList = vals ++ List.replicate (fn.ntmps - args.length) undef := by simp [hl]
  rw [this];exact A.repL_append h6 (jdl _ _)
 refine jdE hc (by rw [hn]; rfl) ⟨0, rfl⟩ x (.inl rfl) (fun ch s' _ _ h _ => absurd h (hq ch s')) hord hinv hinit ?_
 have fin : ∀ (s' : S) (a' : Act) (w' : World), jA5 c fn.results.toList post s' -> Inv [] (.of w) C [] s' a' w' -> a'.defers = [] /\ ∃ v, (results fn a'.tmps).run c.P w' = .ok v w' /\ ∃ outs r v', Ending.returned v = .returned v' /\ post outs r /\ Keeps [] w w' /\ outs.length = ([] : List Nat).length ∧
   (∀ (i b : Nat) (cs : List A), ([] : List Nat)[i]? = some b -> outs[i]? = some cs -> boxAt w' ⟨jbq C w w', [], []⟩ b cs) /\ r.rep ⟨jbq C w w', [], []⟩ v' := fun s' a' w' hr ⟨E, hp, ht, hd⟩ => by
  obtain ⟨r, v, g1, g2, g3⟩ := jmR (fn := fn) hc hp ht hr
  refine ⟨hd, v, g3, ?_⟩
  split at g1
  ·rename_i f' caps
   split at g1
   ·rename_i caps' hcaps
    obtain ⟨C1, hp1, le1⟩ := hp.pubs (jmP caps)
    have lep : Sub C1 (jbq C w w') := fun ad u hc => by
     unfold jbq
     rcases hp1.fresh0 ad u hc with h7 | h7
     ·rw [if_pos (jar w ad (h1 ad u h7))]; exact h7
     ·rw [if_neg (by omega)]; exact hp1.sub ad u hc
    have le0 : (⟨C1, [], []⟩ : Env).le ⟨jbq C w w', [], []⟩ := ⟨lep, fun _ _ h => h, fun _ _ h => h⟩
    have hY : jcx ⟨C1, E.β, E.ρ⟩ [] [] := fun j i hj => by simp at hj
    have one : ∀ (a a2 : A) (y : Value), jzm (ja3 s'.rw (jmP caps)) s'.bx a = some a2 -> a.rep E y -> a2.rep ⟨jbq C w w', [], []⟩ y := fun a a2 y hcp hy => by
     have hy1 := A.rep.mono a le1 hy
     unfold jzm at hcp
     split at hcp
     ·rename_i a3 hren
      cases hcp
      exact A.rep.mono _ le0 (jjw hp1 hY a hren hy1)
     ·split at hcp
      ·rename_i b off _
       split at hcp
       ·rename_i cs hcs
        split at hcp
        ·rename_i cs' hrn
         cases hcp
         unfold A.rep at hy1
         obtain ⟨bb, q1, q2⟩ := hy1
         obtain ⟨T', arr, q3, q4⟩ := hp1.bxs b bb cs q1 hcs
         have hbb : w.heap.size <= bb := by
          obtain ⟨β', e1, e2⟩ := hp1.bp
          rw [List.nil_append] at e1;exact e2 bb (by rw [<- e1]; exact List.mem_iff_getElem?.2 ⟨b, q1⟩)
         unfold A.rep;refine ⟨bb, off, q2, ?_⟩
         have q5 := jjg q4.1 off
         have q6 : A.repC (unH cs') ⟨C1, [], []⟩ (arr.toList.drop off) := A.repC_mk (jbx hp1 hY (unH (cs.drop off)) (joH hrn) (A.repC_L q5)) (A.repC_one q5)
         refine A.repAt_mk (E := (⟨jbq C w w', [], []⟩ : Env).per) (A.repC.mono _ le0 q6) fun j u hj => ?_
         show jbq C w w' _ = _
         rw [jka hbb];rw [List.getElem?_drop] at hj;simp only [see, World.cell?, q3]
         simpa using hj
        ·cases hcp
       ·cases hcp
      ·cases hcp
    have all : ∀ (l l2 : List A) (us : List Value), jkt (ja3 s'.rw (jmP caps)) s'.bx l = some l2 -> A.repL l E us -> A.repL l2 ⟨jbq C w w', [], []⟩ us := fun l => by
     induction l with
     | nil =>
      intro l2 us h7 h8;unfold jkt at h7
      cases h7
      unfold A.repL at h8 ⊢;exact h8
     | cons a l ih =>
      intro l2 us h7 h8;unfold jkt at h7
      split at h7
      ·rename_i a' ha
       split at h7
       ·rename_i r' hr'
        cases h7
        unfold A.repL at h8 ⊢
        obtain ⟨u, us', rfl, q1, q2⟩ := h8
        exact ⟨u, us', rfl, one _ _ _ ha q1, ih _ _ hr' q2⟩
       ·cases h7
      ·cases h7
    refine ⟨[], _, v, rfl, g1, hp.keep0, rfl, fun i b cs hb => by simp at hb, ?_⟩;unfold A.rep at g2 ⊢
    obtain ⟨us, q1, q2⟩ := g2
    exact ⟨us, q1, all _ _ _ hcaps q2⟩
   ·exact g1.elim
  ·exact g1.elim
 intro e s' a' w' hq hi
 cases e with
 | normal => exact fin s' a' w' hq hi
 | ret => exact fin s' a' w' hq hi
 | _ => exact hq.elim
theorem js1 (s : ByteArray) : Spec Tryz.prog 48 [] [.v (.string s)] fun _ r => r = .clo 74 [.pp [.v (.string s)], .pp (jbo classOf)] := by
 refine jmC (ja2 jal xs0 0) Tryz.func48 rfl (by kernel_rfl) rfl (fun _ _ h => h) (by kernel_rfl) ?_;intro _
 have hcl := jkC
 have hpl := jiI classOf
 have hlen := jbW classOf
 have hu : unH (jbo classOf) = jbo classOf := by kernel_rfl
 generalize jbo classOf = L at *;conv => whnf
 refine ja9 [] rfl (fun _ => hcl) ?_;rintro r rfl;rw [show back [] (A.agg L) = .agg L from by unfold back; rw [jhA hpl]];conv => whnf
 rw [hlen];conv => whnf
 refine jfY (ds := L) [] (by rw [hlen]; rfl) ?_;rw [List.nil_append];conv => whnf
 have hcp : jkt ([] : List Row) [[A.v (Value.string s)], L] [A.box 0 0, A.box (0 + 1) 0] = some [.pp [.v (.string s)], .pp L] := by
  have h1 : jcC [] ([] : List Row) (L.drop 0) = some L := by rw [List.drop_zero]; exact jga hpl
  simp [jkt, jzm, ren, idx, jcC] at h1 ⊢
  rw [h1]
  show some [A.pp [.v (.string s)], .pp (unH L)] = _
  rw [hu]
 change (match jkt ([] : List Row) [[A.v (Value.string s)], L] [A.box 0 0, A.box (0 + 1) 0] with
  | some caps' => A.clo 74 caps' = A.clo 74 [.pp [.v (.string s)], .pp L]
  | none => False)
 rw [hcp]
section
def ppS (nr : Nat) (cs : List A) (a : A) : A := match a with
 | .box b off => match b with
  | 0 => .pp (cs.drop off)
  | _ + 1 => .dead
 | a => match je7 0 nr a with
  | true => a
  | false => .dead
theorem jgA {t : List A} {cs cs' : List A} {rw : List Row} (hcs : jcC [] rw cs = some cs') (hna : unH cs' = cs' := by rfl) : Le 0 ⟨t, [cs], rw⟩ ⟨t.map (ppS rw.length cs'), [], rw⟩ := by
 rintro dr w0 C0 β0 a w hdr hn ⟨E, hp, hrep, hd⟩
 obtain rfl : β0 = [] := List.eq_nil_of_length_eq_zero hn
 have hbl := hp.bl
 obtain ⟨b, hβ⟩ : ∃ b, E.β = [b] := by
  have : E.β.length = 1 := by rw [<- hbl]; rfl
  exact List.length_eq_one_iff.1 this
 have h0 : E.β[0]? = some b := by rw [hβ]; rfl
 obtain ⟨T', arr, q1, q2⟩ := hp.bxs 0 b cs h0 rfl
 have hbm : b ∈ E.β := by rw [hβ]; simp
 have hb0 : w0.w.heap.size <= b := by
  obtain ⟨β', e1, e2⟩ := hp.bp
  rw [List.nil_append] at e1;exact e2 b (by rw [<- e1]; exact hbm)
 obtain ⟨C', hC'⟩ : ∃ C' : Rd, C' = fun ad => if ad.block = b then (see w) ad else E.C ad := ⟨_, rfl⟩
 have hsub : Sub E.C C' := fun ad u hc => by
  rw [hC']
  simp only
  split
  ·exact hp.sub ad u hc
  ·exact hc
 have le : (⟨E.C, [], E.ρ⟩ : Env).le ⟨C', [], E.ρ⟩ := ⟨hsub, fun _ _ h => h, fun _ _ h => h⟩
 have hat : A.repAt cs' ⟨C', [], []⟩ b 0 := by
  have hY : jcx E [] [] := fun j i hj => by simp at hj
  have q3 : A.repC cs' ⟨E.C, [], []⟩ arr.toList := by
   have := (q2.ren hp hY hcs).1
   rwa [hna] at this
  refine A.repAt_mk (E := ⟨C', [], []⟩) (A.repC.mono _ (E := ⟨E.C, [], []⟩) (F := ⟨C', [], []⟩) ⟨hsub, fun _ _ h => h, fun _ _ h => h⟩ q3) fun j u hj => ?_
  show C' _ = _
  rw [hC'];simp only [if_true, Nat.zero_add];simp only [see, World.cell?, q1]
  simpa using hj
 have hd' : repD dr ⟨C', [], E.ρ⟩ a.defers := by
  have h1 := jff (E := E) (nb := 0) (nr := E.ρ.length) (Nat.le_refl 0) hdr hd
  rw [List.take_zero, List.take_length] at h1;exact h1.mono le
 refine ⟨⟨C', [], E.ρ⟩, ⟨fun ad u hc => ?_, hp.base.trans hsub, fun ad u hc => ?_, ⟨[], rfl, by simp⟩, List.nodup_nil, fun b hb => by simp at hb, rfl, fun i b cs hb => by simp at hb, hp.rl, fun g r y h1 h2 => ?_, fun g e k n cs y b' h1 h2 h3 => ⟨by simp, fun o sp => ?_⟩, hp.rd, hp.rs, hp.keep, hp.gk⟩, ?_, hd'⟩
 ·rw [hC'] at hc
  simp only at hc
  split at hc
  ·exact hc
  ·exact hp.sub ad u hc
 ·rw [hC'] at hc
  simp only at hc
  split at hc
  ·rename_i e
   exact .inr (.inl (by rw [e]; exact hb0))
  ·exact hp.fresh ad u hc
 ·have hr := hp.rws g r y h1 h2
  cases r with
  | live e k n cs =>
   obtain ⟨xs, g1, g2⟩ := hr
   exact ⟨xs, g1, A.repC.mono cs (E := ⟨E.C, [], []⟩) (F := ⟨C', [], []⟩) ⟨hsub, fun _ _ h => h, fun _ _ h => h⟩ g2⟩
  | pub k n cs =>
   have hr : (A.sl k n cs).rep E y := hr
   show (A.sl k n cs).rep _ y
   unfold A.rep at hr ⊢
   obtain ⟨g1, g2, p, bb, off, cap, g3, g4, g5, g6, g7⟩ := hr
   exact ⟨g1, g2, p, bb, off, cap, g3, g4, g5, g6, A.repAt.mono cs (E := ⟨E.C, [], []⟩) (F := ⟨C', [], []⟩) ⟨hsub, fun _ _ h => h, fun _ _ h => h⟩ g7⟩
  | gone => exact trivial
 ·have hr := hp.rC g e k n cs y b' h1 h2 h3
  have hne : ¬ b' = b := fun e' => hr.1 (by rw [e']; exact hbm)
  rw [hC'];simp only [if_neg hne];exact hr.2 o sp
 ·have one : ∀ (a : A) (y : Value), a.rep E y -> (ppS rw.length cs' a).rep ⟨C', [], E.ρ⟩ y := fun a y ha => by
   have gen : (∀ b off, a ≠ .box b off) -> (ppS rw.length cs' a).rep ⟨C', [], E.ρ⟩ y := fun hnb => by
    have e : ppS rw.length cs' a = match je7 0 rw.length a with | true => a | false => .dead := by
     cases a <;> first | rfl | exact absurd rfl (hnb _ _)
    rw [e]
    split
    ·rename_i hrf
     have := jf0 (nb := 0) (nr := rw.length) a hrf ha
     refine A.rep.mono a le ?_
     have e2 : E.ρ.take rw.length = E.ρ := by rw [hp.rl]; exact List.take_length
     rw [e2] at this
     simpa using this
    ·exact A.rep_dead _ _
   cases a with
   | box b' off =>
    unfold A.rep at ha
    obtain ⟨bb, g1, g2⟩ := ha
    cases b' with
    | zero =>
     rw [h0] at g1
     cases g1
     show (A.pp (cs'.drop off)).rep _ y
     unfold A.rep;refine ⟨b, off, g2, ?_⟩
     have := A.repAt_drop off hat
     rwa [Nat.zero_add] at this
    | succ n => exact A.rep_dead _ _
   | _ => exact gen (by intros; simp)
  have all : ∀ (l : List A) (us : List Value), A.repL l E us -> A.repL (l.map (ppS rw.length cs')) ⟨C', [], E.ρ⟩ us := fun l => by
   induction l with
   | nil => intro us h; simpa [A.repL] using h
   | cons a l ih =>
    intro us h;simp only [List.map_cons];unfold A.repL at h ⊢
    obtain ⟨u, us', rfl, h1, h2⟩ := h
    exact ⟨u, us', rfl, one a u h1, ih us' h2⟩
  exact all _ _ hrep
theorem jlP {n : Nat} {P : Program} {row : String} {args : Array Value} {w : World} {R : Value -> World -> Prop} (h : Rows P row args w R) : RowsIn Fence.wide n P row args w R :=
 fun c cs _ => let ⟨v, w', r, s⟩ := h c cs; ⟨v, w', r, stepsIn_wide.2 s⟩
theorem jwS {n : Nat} {P : Program} {o : Oper} {a : Act} {w : World} {K : Act -> World -> Prop} {Q : Exit -> Act -> World -> Prop} (h : o.wp P a w K Q) : o.wpIn Fence.wide n P a w K Q := by
 refine ⟨fun _ _ => trivial, ?_⟩
 have e : o.semAt Fence.wide.round a.eval = execOp a.eval o := rfl
 rw [e];unfold Oper.wp at h;generalize (execOp a.eval o).run P w = r at *
 match r, h with
 | .ok (.value v) w', h => exact h
 | .ok .skip w', h => exact h
 | .ok (.defer d) w', h => exact h
 | .ok (.enter f args) w', h => exact ⟨fun h' => by simp [Fence.wide] at h', callsIn_wide.2 h⟩
 | .ok (.row row args) w', h => exact ⟨fun h' => by simp [Fence.wide] at h', jlP h⟩
 | .halt (.panic v) w', h => exact h
section
variable {c : Cx} {w0 : W0} {C0 : Rd} {β0 : List Nat} {s : S} {a : Act} {w : World} {E : Env} {o : Oper} {n : Nat}
theorem jjv {ops : List Oper} {Q : Exit -> Act -> World -> Prop} (hc : c.okN) (l2 : List Oper) : ∀ {l : List Oper} {s : S} {a : Act} {w : World} {K : S -> Prop}, Inv [] w0 C0 β0 s a w -> jmt c ops l s K -> (∀ s' a' w', K s' -> Inv [] w0 C0 β0 s' a' w' -> wpListIn Fence.wide n c.P ops.toArray Q l2 a' w') -> wpListIn Fence.wide n c.P ops.toArray Q (l ++ l2) a w
 | [], s, a, w, K, hi, h, hk => hk s a w h hi
 | o :: r, s, a, w, K, hi, h, hk => by
  obtain ⟨E, hp, ht, hd⟩ := hi
  change jeX ops o s (ado c (fun _ => true) s o fun s' => jmt c ops r s' K) (jd4 s o.dst (.tup []) fun s' => jmt c ops r s' K) at h
  show wpListIn Fence.wide n c.P ops.toArray Q (o :: (r ++ l2)) a w
  unfold wpListIn
  rcases jcE ht h with ⟨h1, h2⟩ | ⟨h1, h2⟩
  ·rw [if_pos h1];exact jwS (jqu hc.ok ⟨0, rfl⟩ ⟨E, hp, ht, hd⟩ h2 (fun ch s' _ _ h _ => absurd h (hc.no ch s')) fun s' a' w' h3 h4 => jjv hc l2 h4 h3 hk)
  ·rw [if_neg (by rw [h1]; simp)]
   obtain ⟨s2, k1, k2, k3, k4, k5⟩ := jaO (a := a) hp ht hd (jbj _) h2
   exact ⟨fun _ _ => trivial, jjv hc l2 ⟨E, by rw [k2, k3]; exact hp, k4, k5⟩ k1 hk⟩
theorem joz {x : Code} {q : Exit -> S -> Prop} {Q : Exit -> Act -> World -> Prop} (hc : c.okN) (hn : β0.length = c.np) (ho : jbT c.ord x = true) (hi : Inv [] w0 C0 β0 s a w) (h : awp c x s q) (hk : ∀ e s' a' w', q e s' -> Inv [] w0 C0 β0 s' a' w' -> Q e a' w') : x.wpIn Fence.wide n c.P Q a w :=
 wpIn_wide.2 (jdE hc.ok hn ⟨0, rfl⟩ x (.inl rfl) (fun ch s' _ _ h _ => absurd h (hc.no ch s')) ho hi h hk)
theorem Inv.le {s' : S} {np : Nat} (hi : Inv [] w0 C0 β0 s a w) (h : Le np s s') (hn : β0.length = np) : Inv [] w0 C0 β0 s' a w := h [] w0 C0 β0 a w rfl hn hi
theorem Inv.again {t : List A} {C : Rd} {u0 : World} (hi : Inv [] (.of u0) C [] ⟨t, [], []⟩ a w) : ∃ C', Sub C C' /\ Sub C' (see w) /\ (∀ ad u, C' ad = some u -> C ad = some u ∨ u0.heap.size <= ad.block) /\ Keeps [] u0 w /\ Gok C' w /\ ∀ w', Sub C' (see w') -> Gok C' w' -> Inv [] (.of w') C' [] ⟨t, [], []⟩ a w' := by
 obtain ⟨E, hp, ht, hd⟩ := hi
 have hβ : E.β = [] := List.eq_nil_of_length_eq_zero (by rw [<- hp.bl]; rfl)
 have hρ : E.ρ = [] := List.eq_nil_of_length_eq_zero (by rw [<- hp.rl]; rfl)
 refine ⟨E.C, hp.base, hp.sub, hp.fresh0, hp.keep0, hp.gok, fun w' hw' hg' => ⟨⟨E.C, [], []⟩, ⟨hw', Sub.refl _, fun _ _ h => .inl h, ⟨[], rfl, by simp⟩, List.nodup_nil, fun b hb => by simp at hb, rfl, fun i b cs hb => by simp at hb, rfl, fun g r y hg => by simp at hg, fun g e k n cs y b hg => by simp at hg, fun g e k n cs y h' e' k' n' cs' z b _ hg => by simp at hg, fun g y hg => by simp at hg, Keeps.refl _ _, jxa hg'⟩, ?_, hd⟩⟩
 have : E = ⟨E.C, [], []⟩ := by
  obtain ⟨C', β', ρ'⟩ := E
  simp only at hβ hρ
  rw [hβ, hρ]
 rw [this] at ht;exact ht
end
end
section
def jiH (B : Nat) (W : World) (b : Nat) : Prop := b = B ∨ ∃ a l c, W.cell? ⟨B, 0, none⟩ = some (.slice (some a) l c) /\ a.block = b
def ValB (B : Nat) (W : World) : Prop := (∃ o, W.heap[B]? = some o /\ o.isCells = true) /\ ∀ b, jiH B W b -> b < W.heap.size
def jlM (o : Obj) : Bool := o.isCells || o.isWalk
theorem jsR {o : Obj} (h : o.isCells = false) (k : o.isWalk = false) : jlM o = false := by simp [jlM, h, k]
theorem jmH {o : Obj} (h : o.isCells = true) : jlM o = true := by simp [jlM, h]
def KpB (B : Nat) (W W' : World) : Prop := ValB B W -> ValB B W' /\ W.heap.size <= W'.heap.size /\ (∀ b, jiH B W' b -> jiH B W b ∨ W.heap.size <= b) /\ ∀ b o, W.heap[b]? = some o -> jlM o = true -> ¬ jiH B W b -> W'.heap[b]? = some o
theorem jcB {W : World} {b : Nat} {o : Obj} (h : W.heap[b]? = some o) : b < W.heap.size := (Array.getElem?_eq_some_iff.1 h).1
theorem ValB.lt {B : Nat} {W : World} (h : ValB B W) : B < W.heap.size := h.2 B (.inl rfl)
theorem KpB.refl (B : Nat) (W : World) : KpB B W W := fun h => ⟨h, Nat.le_refl _, fun _ h => .inl h, fun _ _ h _ _ => h⟩
theorem KpB.trans {B : Nat} {a b c : World} (h : KpB B a b) (k : KpB B b c) : KpB B a c := fun hv => by
 obtain ⟨h1, h2, h3, h4⟩ := h hv
 obtain ⟨k1, k2, k3, k4⟩ := k h1
 refine ⟨k1, Nat.le_trans h2 k2, fun x hx => ?_, fun x o hx ho hn => k4 x o (h4 x o hx ho hn) ho fun ho' => ?_⟩
 ·rcases k3 x hx with hx | hx
  ·exact h3 x hx
  ·exact .inr (by omega)
 ·rcases h3 x ho' with hx' | hx'
  ·exact hn hx'
  ·have := jcB hx
   omega
theorem jft {B : Nat} {W W' : World} (h : W'.heap[B]? = W.heap[B]?) (b : Nat) : jiH B W' b ↔ jiH B W b := by
 have : W'.cell? ⟨B, 0, none⟩ = W.cell? ⟨B, 0, none⟩ := World.cell?_of_block (w := W) h
 unfold jiH;rw [this]
theorem KpB.put {B : Nat} (W : World) (l : Nat) (o o' : Obj) (hl : W.heap[l]? = some o) (ho : jlM o = false) : KpB B W (W.putObj l o') := fun hv => by
 obtain ⟨⟨ob, h1, h2⟩, h3⟩ := hv
 have hne : ∀ (b : Nat) (ob : Obj), W.heap[b]? = some ob -> jlM ob = true -> (W.putObj l o').heap[b]? = W.heap[b]? := fun b ob h1 h2 => by
  refine World.putObj_heap_other ?_;rintro rfl;rw [hl] at h1
  cases h1
  rw [ho] at h2
  cases h2
 have hsz : (W.putObj l o').heap.size = W.heap.size := by simp [World.putObj]
 have hB := hne B ob h1 (jmH h2)
 refine ⟨⟨⟨ob, by rw [hB]; exact h1, h2⟩, fun b hb => ?_⟩, by omega, fun b hb => .inl ((jft hB b).1 hb), fun b o hb hoc _ => (hne b o hb hoc).trans hb⟩;rw [hsz];exact h3 b ((jft hB b).1 hb)
theorem ValB.keeps {B : Nat} {W W' : World} (h : ValB B W) (k : Keeps [] W W') : ValB B W' /\ ∀ b, jiH B W' b ↔ jiH B W b := by
 have hB := k.block B h.lt (by simp)
 refine ⟨⟨?_, fun b hb => ?_⟩, fun b => jft hB b⟩
 ·rw [hB]; exact h.1
 ·have := h.2 b ((jft hB b).1 hb)
  have := k.size
  omega
theorem KpB.keeps {B : Nat} {W W' : World} (k : Keeps [] W W') : KpB B W W' := fun hv => by
 obtain ⟨h1, h2⟩ := hv.keeps k
 exact ⟨h1, k.size, fun b hb => .inl ((h2 b).1 hb), fun b o hb _ _ => (k.block b (jcB hb) (by simp)).trans hb⟩
theorem jiS {W : World} {ad : Addr} {u : Value} (h : (see W) ad = some u) : ∃ o, W.heap[ad.block]? = some o /\ jlM o = true := by
 unfold see at h
 split at h
 ·unfold World.cell? at h
  split at h
  ·rename_i c e f ho
   exact ⟨_, ho, rfl⟩
  ·cases h
 ·unfold jeA at h
  split at h
  ·rename_i es c ho
   exact ⟨_, ho, rfl⟩
  ·cases h
theorem jbi {β : Type} {n : Nat} {J : β -> World -> Prop} (h : AbidesFrom n J) {s : β} {W W' : World} (hj : J s W) (k : Keeps [] W W') : J s W' :=
 h s W W' none hj ⟨k.os, k.tape, k.output, k.size, fun b hb _ => k.block b hb (by simp)⟩ fun r hr => by cases hr
section
variable {w0 : W0} {w : World} {C : Rd} {t : List A} {a : Act} {B : Nat}
theorem Inv.yielded {u0 : World} (hi : Inv [] (.of u0) C [] ⟨t, [], []⟩ a w) (hv : ValB B u0) (hno : ∀ ad u, C ad = some u -> ¬ jiH B u0 ad.block) : Keeps [] u0 w /\ ∀ w2, KpB B w w2 -> ∃ C', Inv [] (.of w2) C' [] ⟨t, [], []⟩ a w2 /\ ValB B w2 /\ ∀ ad u, C' ad = some u -> ¬ jiH B w2 ad.block := by
 obtain ⟨C', h1, h2, h3, h4, hg, h5⟩ := hi.again
 refine ⟨h4, fun w2 hk => ?_⟩
 obtain ⟨v1, v2⟩ := hv.keeps h4
 obtain ⟨k1, k2, k3, k4⟩ := hk v1
 have hn : ∀ ad u, C' ad = some u -> ¬ jiH B w ad.block := fun ad u hc ho => by
  have ho := (v2 _).1 ho
  rcases h3 ad u hc with q | q
  ·exact hno ad u q ho
  ·have := hv.2 _ ho
   omega
 refine ⟨C', h5 w2 (fun ad u hc => ?_) (hg.blocks fun b cs T sp q1 ⟨u, hc⟩ => k4 _ _ q1 rfl (hn _ u hc)), k1, fun ad u hc ho => ?_⟩
 ·obtain ⟨o, q1, q2⟩ := jiS (h2 ad u hc)
  have := k4 _ o q1 q2 (hn ad u hc)
  exact (jcS (w := w) (this.trans q1.symm)).trans (h2 ad u hc)
 ·rcases k3 _ ho with q | q
  ·exact hn ad u hc q
  ·obtain ⟨o, q1, q2⟩ := jiS (h2 ad u hc)
   have := jcB q1
   omega
theorem ji1 {C0 : Rd} {β0 : List Nat} {s : S} (hi : Inv [] w0 C0 β0 s a w) {i : Nat} {v : Value} (h : s.t.getD i .dead = .v v) : a.tmps.getD i undef = v := by
 obtain ⟨E, _, ht, _⟩ := hi
 have := A.repL_getD ht i undef
 rw [h] at this
 have := (A.rep_v_iff.1 this).1
 simpa [Array.getD_eq_getD_getElem?, List.getD_eq_getElem?_getD] using this
theorem jmQ {n l : Nat} {P : Program} {ops : Array Oper} {o : Oper} {rest : List Oper} {f : Operand} {args : Array Operand} {ts : Array TypeId} {vals : Array Value} {Q : Exit -> Act -> World -> Prop} {R : Ending -> World -> Prop}
  (ho : o.op = .call ⟨.value f, args, ts⟩) (hg : o.guard = none) (hf : a.eval f = .func (.yield l) #[] #[]) (hv : args.map a.eval = vals) (hy : YieldAt Fence.wide (n - 1) P l vals w R)
  (hk : ∀ e w', R e w' -> ∃ v, e = .returned v /\ wpListIn Fence.wide n P ops Q rest (a.put o.dst v) w') : wpListIn Fence.wide n P ops Q (o :: rest) a w := by
 unfold wpListIn;rw [if_pos (by simp [Region.wanted, hg])]
 obtain ⟨fn, tmps, assign, body, h1, h2⟩ := hy
 refine ⟨fun _ _ => trivial, ?_⟩
 have e : o.semAt Fence.wide.round a.eval = execOp a.eval o := rfl
 rw [e]
 have hrun : (execOp a.eval o).run P w = .ok (.round l fn tmps assign body) w := by
  rw [<- h1, <- hv]
  simp [execOp, ho, resolve, Deferred.ofValue, hf, invoke, Result.andThen]
 rw [hrun];refine ⟨fun h' => by simp [Fence.wide] at h', h2.mono fun e w' hr => ?_⟩
 obtain ⟨v, rfl, hw⟩ := hk e w' hr
 exact hw
theorem jq5 {W : World} {C : Rd} (h0 : Gok C W) (h1 : Sub C (see W)) {args : List A} {vals : Array Value} {n : Nat} (h6 : A.repL args ⟨C, [], []⟩ vals.toList) :
  Inv [] (.of W) C [] ⟨args ++ List.replicate (n - args.length) .dead, [], []⟩ { tmps := vals ++ Array.replicate (n - vals.size) undef, defers := [] } W := by
 have hl := A.repL_len h6
 refine ⟨⟨C, [], []⟩, ⟨h1, Sub.refl _, fun _ _ hc => .inl hc, ⟨[], by simp, by simp⟩, List.nodup_nil, fun b hb => by simp at hb, rfl, fun i b cs hb => by simp at hb, rfl, fun g r y hg => by simp at hg, fun g e k n cs y b hg => by simp at hg, fun g e k n cs y h' e' k' n' cs' z b _ hg => by simp at hg, fun g y hg => by simp at hg, Keeps.refl _ _, jxa h0⟩, ?_, rfl⟩
 have : (vals ++ Array.replicate (n - vals.size) undef).toList = vals.toList ++ List.replicate (n - args.length) undef := by
  have : vals.size = args.length := by rw [<- hl]; simp
  simp [this]
 rw [this];exact A.repL_append h6 (jdl _ _)
theorem jn9 {C0 : Rd} {β0 : List Nat} {s : S} {F : Fence} {n : Nat} {P : Program} {x y : Code} {Q : Exit -> Act -> World -> Prop} (hi : Inv [] w0 C0 β0 s a w) {w2 : World} {i : Nat} {b : Bool} (h : s.t.getD i .dead = .v (.bool b)) (hk : (if b then x else y).wpIn F n P Q a w2) : (Code.cond (.tmp i) x y).wpIn F n P Q a w2 :=
 wpIn_cond (ji1 hi h) hk
theorem jk4 {c : Cx} {C0 : Rd} {β0 : List Nat} {s : S} {n : Nat} {x y : Code} {Q : Exit -> Act -> World -> Prop} (hc : c.okN) (hn : β0.length = c.np) (hi : Inv [] w0 C0 β0 s a w) (ho : jbT c.ord x = true)
  (h : awp c x s fun e s' => ∀ a' w', Inv [] w0 C0 β0 s' a' w' -> Exit.then (y.wpIn Fence.wide n c.P Q) Q e a' w') : (Code.seq x y).wpIn Fence.wide n c.P Q a w :=
 wpIn_seq (joz hc hn ho hi h fun e s' a' w' h1 h2 => h1 a' w' h2)
theorem jna {c : Cx} {C0 : Rd} {β0 : List Nat} {l : List A} {m : Nat} {bx : List (List A)} {n : Nat} {x y : Code} {Q : Exit -> Act -> World -> Prop} (hc : c.okN) (hn : β0.length = c.np) (hi : Inv [] w0 C0 β0 ⟨l ++ List.replicate m .dead, bx, []⟩ a w) (ho : jbT c.ord x = true)
  (h : jdU l m fun t => awp c x ⟨t, bx, []⟩ fun e s' => ∀ a' w', Inv [] w0 C0 β0 s' a' w' -> Exit.then (y.wpIn Fence.wide n c.P Q) Q e a' w') : (Code.seq x y).wpIn Fence.wide n c.P Q a w :=
 jk4 hc hn hi ho ((initK_iff (K := fun t => awp c x ⟨t, bx, []⟩ _)).1 h)
theorem jn1 {c : Cx} {C0 : Rd} {β0 : List Nat} {s : S} {n : Nat} {ops l : List Oper} {Q : Exit -> Act -> World -> Prop} (m : Nat) (hc : c.okN) (hi : Inv [] w0 C0 β0 s a w)
  (h : jmt c ops (l.take m) s fun s' => ∀ a' w', Inv [] w0 C0 β0 s' a' w' -> wpListIn Fence.wide n c.P ops.toArray Q (l.drop m) a' w') : wpListIn Fence.wide n c.P ops.toArray Q l a w := by
 have := jjv (n := n) (Q := Q) hc (l.drop m) hi h fun s' a' w' h1 h2 => h1 a' w' h2
 rwa [List.take_append_drop] at this
theorem jvp {c : Cx} {C0 : Rd} {β0 : List Nat} {bx : List (List A)} {l0 : List A} {m0 n : Nat} {ops l : List Oper} {Q : Exit -> Act -> World -> Prop} (m : Nat) (hc : c.okN) (hi : Inv [] w0 C0 β0 ⟨l0 ++ List.replicate m0 .dead, bx, []⟩ a w)
  (h : jdU l0 m0 fun t => jmt c ops (l.take m) ⟨t, bx, []⟩ fun s' => ∀ a' w', Inv [] w0 C0 β0 s' a' w' -> wpListIn Fence.wide n c.P ops.toArray Q (l.drop m) a' w') : wpListIn Fence.wide n c.P ops.toArray Q l a w :=
 jn1 m hc hi ((initK_iff (K := fun t => jmt c ops (l.take m) ⟨t, bx, []⟩ _)).1 h)
theorem jzb {C0 : Rd} {β0 : List Nat} {s : S} {d : Option Nat} {v : Value} {G : Act -> Prop} (hi : Inv [] w0 C0 β0 s a w) (hv : okV v) (h : jd4 s d (.v v) fun s' => ∀ a', Inv [] w0 C0 β0 s' a' w -> G a') : G (a.put d v) := by
 obtain ⟨E, hp, ht, hd⟩ := hi
 obtain ⟨s2, k1, k2, k3, k4, k5⟩ := jaO (a := a) hp ht hd (A.rep_v hv) h
 exact k1 _ ⟨E, by rw [k2, k3]; exact hp, k4, k5⟩
def jBe (s : S) (K : S -> Prop) : Prop := K s
def jzJ (c : Cx) (ops : List Oper) (o : Oper) (ih : S -> (S -> Prop) -> Prop) (s : S) (K : S -> Prop) : Prop :=
 jeX ops o s (jok c s o fun r => jd4 s o.dst r fun s' => ih s' K) (jd4 s o.dst (.tup []) fun s' => ih s' K)
noncomputable def apu (c : Cx) (ops : List Oper) (l : List Oper) : S -> (S -> Prop) -> Prop := List.rec (motive := fun _ => S -> (S -> Prop) -> Prop) jBe (fun o _ ih => jzJ c ops o ih) l
theorem jg7 {c : Cx} {C0 : Rd} {β0 : List Nat} {n : Nat} {ops : List Oper} {Q : Exit -> Act -> World -> Prop} (hc : c.ok) {w2 : World} : ∀ {l : List Oper} {s : S} {a : Act}, Inv [] w0 C0 β0 s a w -> apu c ops l s (fun s' => ∀ a', Inv [] w0 C0 β0 s' a' w -> Q .normal a' w2) -> wpListIn Fence.wide n c.P ops.toArray Q l a w2
 | [], s, a, hi, h => h a hi
 | o :: r, s, a, ⟨E, hp, ht, hd⟩, h => by
  change jzJ c ops o (apu c ops r) s _ at h
  unfold jzJ at h;unfold wpListIn
  rcases jcE ht h with ⟨h1, h2⟩ | ⟨h1, h2⟩
  ·rw [if_pos h1]
   obtain ⟨x, y, k1, k2, k3⟩ := jnF hc hp ht h2
   obtain ⟨s2, p1, p2, p3, p4, p5⟩ := jaO (a := a) hp ht hd k2 k1
   refine ⟨fun _ _ => trivial, ?_⟩
   have e : o.semAt Fence.wide.round a.eval = execOp a.eval o := rfl
   rw [e, k3 w2];exact jg7 hc ⟨E, by rw [p2, p3]; exact hp, p4, p5⟩ p1
  ·rw [if_neg (by rw [h1]; simp)]
   obtain ⟨s2, p1, p2, p3, p4, p5⟩ := jaO (a := a) hp ht hd (jbj _) h2
   exact ⟨fun _ _ => trivial, jg7 hc ⟨E, by rw [p2, p3]; exact hp, p4, p5⟩ p1⟩
theorem jhm {E : Env} : ∀ {vs us : List Value}, A.repC (vs.map A.v) E us -> us = vs
 | [], us, h => by unfold A.repC at h; exact h
 | v :: vs, us, h => by
  rw [List.map_cons] at h;unfold A.repC at h
  obtain ⟨u, us', rfl, _, h2, h3⟩ := h
  rw [(A.rep_v_iff.1 h2).1, jhm h3]
theorem juW {C0 : Rd} {β0 : List Nat} {s : S} (hi : Inv [] w0 C0 β0 s a w) {i : Nat} {vs : List Value} (h : s.t.getD i .dead = .agg (vs.map A.v)) : a.tmps.getD i undef = .agg vs.toArray := by
 obtain ⟨E, _, ht, _⟩ := hi
 have := A.repL_getD ht i undef
 rw [h] at this;unfold A.rep at this
 obtain ⟨us, h1, h2⟩ := this
 have h3 := jhm h2
 have : a.tmps.getD i undef = .agg us := by simpa [Array.getD_eq_getD_getElem?, List.getD_eq_getElem?_getD] using h1
 rw [this, <- h3]
end
end
structure It where
 tok : Tk
 pos : Nat
 err : Int
def jx1 (t : Tk) : Value := .agg #[.int .i64 t.kind, .int .i64 t.pos, .string t.text, .int .i64 t.n]
def clP (n : Nat) : Nat := if n <= 1000000000 then n else 0
def clE (e : Int) : Int := if 0 <= e /\ e <= 100 then e else 0
theorem jr8 (n : Nat) : clP n <= 1000000000 := by unfold clP; split <;> omega
theorem jrK (e : Int) : 0 <= clE e /\ clE e <= 100 := by unfold clE; split <;> omega
def jvX (x : It) : Array Value := #[jx1 x.tok, .agg #[.int .i64 (clP x.pos : Nat), .int .i64 (clE x.err)]]
theorem joj {l : List UInt8} {e : Int} (h : jbh l = .bad e) : 0 <= e /\ e <= 100 := by
 cases l with
 | nil => simp [jbh] at h; omega
 | cons c r =>
  cases hL : isL c
  ·cases hD : isD c
   ·cases h3 : jcF jia (bs ((c :: r).take 2))
    ·cases h4 : jcF jpH (bs [c])
     ·simp only [jbh, hL, hD, h3, h4] at h
      cases h; decide
     ·simp only [jbh, hL, hD, h3, h4] at h
      cases h
    ·simp only [jbh, hL, hD, h3] at h
     cases h
   ·simp only [jbh, hL, hD] at h
    split at h
    ·cases h; decide
    ·cases h
  ·simp only [jbh, hL] at h
   split at h
   ·cases h; decide
   ·cases h
def itOk (t : Tk) : It := ⟨t, t.pos, 0⟩
def jfk (s : ByteArray) (xs : List It) : Prop := match (jb4 s).err with
 | none => xs = (jb4 s).toks.map itOk
 | some (p, e) => ∃ t, xs = (jb4 s).toks.map itOk ++ [⟨t, p, e⟩]
def jhr (s : ByteArray) (xs : List It) : Prop := ∃ ys, jfk s ys /\ xs <+: ys
theorem jk2 : ∀ (l : List UInt8) (n : Int), n <= 2147483647 -> jgy n l <= 2147483647
 | [], n, h => h
 | c :: r, n, h => by
  unfold jgy
  split
  ·omega
  ·exact jk2 r _ (by omega)
def jwO (l : Nat) (s : ByteArray) (L : List A) (p : Nat) : List A := [.v (.func (.yield l) #[] #[]), .pp [.v (.string s)], .pp L, .dead, .v (.int .i64 p)] ++ List.replicate 108 .dead
theorem jmM (s : ByteArray) (hs : s.size <= 1000000000) (n B : Nat) (lb : Array Value) (w0 : World) (C : Rd) (hv : ValB B w0) (hsub : Sub C (see w0)) (hg : Gok C w0) (hno : ∀ ad u, C ad = some u -> ¬ jiH B w0 ad.block)
  (hrep : A.repL [.pp [.v (.string s)], .pp (jbo classOf)] ⟨C, [], []⟩ lb.toList) :
  SeqStopsK Fence.wide n Tryz.prog 74 lb jvX (KpB B) (jfk s) (jhr s) s.size w0 := by
 intro l J Jx W hW hJ hJx hY h0
 have hsl := jbv s
 have keepW : Keeps [] w0 W := ⟨hW.os, hW.tape, hW.output, hW.size, fun b hb _ => hW.block b hb⟩
 have hsubW : Sub C (see W) := fun ad u hc => keepW.cell (hsub ad u hc) (by simp)
 have hgW : Gok C W := hg.keep keepW (by simp)
 have hvW : ValB B W /\ ∀ b, jiH B W b ↔ jiH B w0 b := by
  refine hv.keeps ⟨hW.os, hW.tape, hW.output, hW.size, fun b hb _ => hW.block b hb⟩
 have hnoW : ∀ ad u, C ad = some u -> ¬ jiH B W ad.block := fun ad u hc ho => hno ad u hc ((hvW.2 _).1 ho)
 obtain ⟨L, hL⟩ : ∃ L, L = jbo classOf := ⟨_, rfl⟩
 rw [<- hL] at hrep
 have hc : (Cx.mk Tryz.prog tab jyO (fun _ => [0]) 0 (fun _ _ => False)).okN := juE jyO (fun _ => [0]) 0
 refine callsIn_of_wp Tryz.func74 rfl trivial ?_
 have hi := jq5 (n := 113) hgW hsubW (args := [.v (.func (.yield l) #[] #[]), .pp [.v (.string s)], .pp L]) (vals := #[.func (.yield l) #[] #[]] ++ lb) (by
  simp only [Array.toList_append];refine ⟨_, _, rfl, A.rep_v trivial, ?_⟩
  simpa using hrep)
 refine jna hc rfl hi (by kernel_rfl) ?_;conv => whnf
 intro a W1 hi;refine wpIn_block ?_;refine wpIn_loop (fun a w => ∃ (ts : List Tk) (p : Nat) (C : Rd), Inv [] (.of w) C [] ⟨jwO l s L p, [], []⟩ a w /\ ValB B w /\ (∀ ad u, C ad = some u -> ¬ jiH B w ad.block) /\ J (ts.map itOk) w /\ p <= s.size /\ ts.length <= p /\ Lx.app ts (ji4 p (s.data.toList.drop p)) = jb4 s)
  (fun a _ => s.size - (intOf (a.tmps.getD 4 undef)).toNat) ?_ ?_
 ·obtain ⟨hk, hy⟩ := hi.yielded hvW.1 hnoW
  obtain ⟨C', i1, i2, i3⟩ := hy W1 (KpB.refl B W1)
  exact ⟨[], 0, C', i1, i2, i3, jbi hJ h0 hk, Nat.zero_le _, Nat.zero_le _, rfl⟩
 rintro a w ⟨ts, p, C, hi, hv, hno, hj, hp, hts, hinv⟩
 have hp4 : intOf (a.tmps.getD 4 undef) = p := by rw [ji1 hi (i := 4) (v := .int .i64 p) rfl]; rfl
 refine jna hc rfl hi (by kernel_rfl) ?_;conv => whnf
 by_cases hlt : p < s.size
 ·refine jbd (by simp; omega) ?_;conv => whnf
  intro a' w' hi';refine wpIn_block ?_
  obtain ⟨c, r, hd⟩ : ∃ c r, s.data.toList.drop p = c :: r := ⟨_, _, jfm s.data.toList p (by omega)⟩
  have hrl : (c :: r).length = s.size - p := by rw [<- hd, List.length_drop, hsl]
  have hR : s.extract (Int.toNat (p : Int)) (Int.toNat (s.size : Int)) = bs (c :: r) := by rw [jiD, <- hd]; congr 1; apply List.take_of_length_le; rw [List.length_drop]; omega
  have hbs := jbB (c :: r)
  refine jk4 hc rfl hi' (by kernel_rfl) ?_;conv => whnf
  refine ⟨by omega, ?_⟩;rw [hR];generalize hb : bs (c :: r) = b at *;conv => whnf
  intro a2 w2 hi2
  replace hi2 := (hi2.le (jgA rfl) rfl).le (je6 (t' := [.v (.func (.yield l) #[] #[]), .pp [.v (.string s)], .pp L, .dead, .v (.int .i64 p), .pp [.v (.string b)]] ++ List.replicate 107 .dead) (by repeat' constructor)) rfl
  refine jna hc rfl hi2 (by kernel_rfl) ?_;conv => whnf
  intro a3 w3 hi3;refine jk4 hc rfl hi3 (by kernel_rfl) ?_;conv => whnf
  intro a4 w4 hi4;refine jk4 hc rfl hi4 (by kernel_rfl) ?_;conv => whnf
  intro a5 w5 hi5
  have hd1 : ∀ k, s.data.toList.drop (p + k) = (c :: r).drop k := fun k => by rw [<- hd, List.drop_drop]
  have hbL : b.size = s.size - p := by rw [hbs]; exact hrl
  have hrl2 : r.length + 1 = s.size - p := by simpa using hrl
  have hws := js5 b (by omega)
  have hns := jsA b (by omega)
  rw [<- hL] at hws hns
  refine wpIn_seq (joz (q := fun e s' => match e with
   | .normal => ∃ (tk : Tk) (e : Int), (jcf c = false /\ jpz c = false) /\ tk.pos = p /\ tk.text.size <= s.size /\ (e = 0 /\ (∃ len, jbh (c :: r) = .tok tk.kind len tk.n /\ tk.text = bs ((c :: r).take len)) ∨ e ≠ 0 /\ jbh (c :: r) = .bad e) ∧
     Le 0 s' ⟨[.v (.func (.yield l) #[] #[]), .pp [.v (.string s)], .pp L, .dead, .v (.int .i64 p), .dead, .dead, .pp (tkL tk), jao e] ++ List.replicate 104 .dead, [], []⟩
   | .exit x => x = 1 /\ ∃ p', p < p' /\ p' <= s.size /\ Lx.app ts (ji4 p' (s.data.toList.drop p')) = jb4 s /\ Le 0 s' ⟨jwO l s L p', [], []⟩
   | .ret => jb4 s = ⟨ts, none⟩
   | _ => False) hc rfl (by kernel_rfl) hi5 ?_ ?_)
  ·conv => whnf
   refine ⟨⟨by omega, by rw [hbs]; simp⟩, ?_⟩;rw [show b.data.toList.getD (Int.toNat 0) 0 = c from by rw [<- hb, jb3]; rfl]
   have hcb := jo4 c
   conv => whnf
   refine ⟨⟨by omega, by omega⟩, ?_⟩;generalize hq : jae _ (Int.toNat (c.toNat : Int)) L = q
   obtain rfl : q = [.v (.int .u8 (classOf c.toNat))] := by rw [<- hq, hL]; exact jkM classOf c.toNat (by omega)
   conv => whnf
   rw [jxF]
   cases hsp : jpz c with
   | true =>
    have hha : jcf c = false := by
     simp only [jpz, jcf, Bool.or_eq_true, decide_eq_true_eq, decide_eq_false_iff_not] at hsp ⊢;omega
    conv => whnf
    refine ⟨jaL (by omega), ?_⟩;conv => whnf
    refine ⟨rfl, p + 1, by omega, by omega, ?_, (jgA rfl).trans (je6 (by repeat' constructor))⟩;rw [hd1 1, <- hinv, hd, jmZ hha hsp]; rfl
   | false =>
    conv => whnf
    rw [jtH]
    cases hha : jcf c with
    | true =>
     conv => whnf
     refine ja9 [] rfl (fun _ => jlQ b (by omega)) ?_;rintro x rfl
     have hno : jeY c = true := by
      simp only [jcf, jeY, decide_eq_true_eq, Bool.not_eq_true', decide_eq_false_iff_not] at hha ⊢;omega
     have hsp1 : jaf jeY (c :: r) = jaf jeY r + 1 := by simp [jaf, hno]
     have hle := jci jeY r
     have hlx := js8 (p := p) (r := r) hha
     have hix : jk7 jeY b.data.toList = if jaf jeY r + 1 < r.length + 1 then ((jaf jeY r + 1 : Nat) : Int) else -1 := by
      unfold jk7; rw [<- hb, jb3, hsp1]; rfl
     generalize jk7 jeY b.data.toList = v at *;conv => whnf
     by_cases hlt2 : jaf jeY r < r.length
     ·rw [if_pos (by omega)] at hix;refine jaB (b := decide (v < 0)) (decide_eq_false (by omega)) ?_;conv => whnf
      refine ⟨jaL (by omega), ?_⟩;conv => whnf
      rw [hix];refine ⟨rfl, p + (jaf jeY r + 1), by omega, by omega, ?_, (jgA rfl).trans (je6 (by repeat' constructor))⟩;rw [hd1 _, <- hinv, hd, hlx, List.drop_succ_cons, Nat.add_comm (jaf jeY r) 1, <- Nat.add_assoc]
     ·rw [if_neg (by omega)] at hix;refine jbd (b := decide (v < 0)) (decide_eq_true (by omega)) ?_;conv => whnf
      rw [<- hinv, hd, hlx, List.drop_of_length_le (by omega), jnW]
      simp [Lx.app]
    | false =>
     conv => whnf
     rw [jAQ]
     cases hL1 : isL c with
     | true =>
      conv => whnf
      refine ja9 [] rfl (fun _ => hws) ?_;rintro x rfl
      have hsp1 : jaf jbu (c :: r) = jaf jbu r + 1 := by simp [jaf, jbu, hL1]
      have hle := jci jbu r
      have htok : jbh (c :: r) = if 10 < jaf jbu r + 1 then .bad 2 else .tok 1 (jaf jbu r + 1) 0 := by simp only [jbh, hL1]
      have hw := je2 (c :: r) (jaf jbu r + 1) (by simp; omega)
      have hcut : b.extract (Int.toNat 0) (Int.toNat ((jaf jbu r + 1 : Nat) : Int)) = bs ((c :: r).take (jaf jbu r + 1)) := by
       rw [jgM b (Int.toNat 0) _ (jaf jbu r + 1) (by simp; omega) (by simp), <- hb, jb3]; rfl
      rw [<- hb, jb3, hsp1, hb];conv => whnf
      refine ⟨⟨by omega, by omega, by omega⟩, ?_⟩;rw [hcut];generalize hwd : bs ((c :: r).take (jaf jbu r + 1)) = wd at *;conv => whnf
      by_cases hlong : 10 < jaf jbu r + 1
      ·rw [if_pos hlong] at htok;refine jbd (b := decide ((10 : Int) < (wd.size : Int))) (decide_eq_true (by omega)) ?_;conv => whnf
       exact ⟨⟨1, p, wd, 0⟩, 2, ⟨rfl, rfl⟩, rfl, by show wd.size <= s.size; omega, .inr ⟨by decide, htok⟩, (jgA rfl).trans (je6 (by repeat' constructor))⟩
      ·rw [if_neg hlong] at htok;refine jaB (b := decide ((10 : Int) < (wd.size : Int))) (decide_eq_false (by omega)) ?_;conv => whnf
       exact ⟨⟨1, p, wd, 0⟩, 0, ⟨rfl, rfl⟩, rfl, by show wd.size <= s.size; omega, .inl ⟨rfl, _, htok, hwd.symm⟩, (jgA rfl).trans (je6 (by repeat' constructor))⟩
     | false =>
      conv => whnf
      rw [jzy]
      cases hD1 : isD c with
      | true =>
       conv => whnf
       refine ja9 [] rfl (fun _ => hns) ?_;rintro x rfl
       have hsp1 : jaf isD (c :: r) = jaf isD r + 1 := by simp [jaf, hD1]
       have hle := jci isD r
       have htok : jbh (c :: r) = if jgy 0 (c :: r.take (jaf isD r)) < 0 then .bad 6 else .tok 2 (jaf isD r + 1) (jgy 0 (c :: r.take (jaf isD r))) := by simp only [jbh, hL1, hD1]
       have hw := je2 (c :: r) (jaf isD r + 1) (by simp; omega)
       have hcut : b.extract (Int.toNat 0) (Int.toNat ((jaf isD r + 1 : Nat) : Int)) = bs ((c :: r).take (jaf isD r + 1)) := by
        rw [jgM b (Int.toNat 0) _ (jaf isD r + 1) (by simp; omega) (by simp), <- hb, jb3]; rfl
       have hpu := jww (bs ((c :: r).take (jaf isD r + 1))) (by rw [hw]; omega) (by rw [hw]; omega) (by
        intro x hx;rw [jb3, <- hsp1] at hx
        exact jh5 isD _ x hx)
       rw [jb3, List.take_succ_cons] at hpu;rw [<- List.take_succ_cons] at hpu;rw [<- hb, jb3, hsp1, hb];conv => whnf
       refine ⟨⟨by omega, by omega, by omega⟩, ?_⟩;rw [hcut];generalize hwd : bs ((c :: r).take (jaf isD r + 1)) = wd at *;conv => whnf
       refine ja9 [] rfl (fun _ => hpu) ?_;rintro x rfl
       have hvl : jgy 0 ((c :: r).take (jaf isD r + 1)) = jgy 0 (c :: r.take (jaf isD r)) := by rw [List.take_succ_cons]
       rw [hvl]
       have hmx := jk2 (c :: r.take (jaf isD r)) 0 (by omega)
       generalize jgy 0 (c :: r.take (jaf isD r)) = v at *
       by_cases hneg : v < 0
       ·rw [if_pos hneg] at htok ⊢;conv => whnf
        refine ⟨jaL (by omega), ?_⟩;conv => whnf
        exact ⟨⟨2, p, wd, 2147483647⟩, 6, ⟨rfl, rfl⟩, rfl, by show wd.size <= s.size; omega, .inr ⟨by decide, htok⟩, (jgA rfl).trans (jic (by repeat' constructor))⟩
       ·rw [if_neg hneg] at htok ⊢;conv => whnf
        refine ⟨jaL (by omega), ?_⟩;conv => whnf
        exact ⟨⟨2, p, wd, v⟩, 0, ⟨rfl, rfl⟩, rfl, by show wd.size <= s.size; omega, .inl ⟨rfl, _, htok, hwd.symm⟩, (jgA rfl).trans (jic (by repeat' constructor))⟩
      | false =>
       conv => whnf
       have h1c : (bs [c]).size = 1 := by rw [jbB]; rfl
       have hcut1 : b.extract (Int.toNat 0) (Int.toNat 1) = bs [c] := by
        rw [jgM b (Int.toNat 0) _ 1 (by simp; omega) (by simp), <- hb, jb3]; rfl
       by_cases hone : 1 < r.length + 1
       ·have hcut2 : b.extract (Int.toNat 0) (Int.toNat 2) = bs ((c :: r).take 2) := by
         rw [jgM b (Int.toNat 0) _ 2 (by simp; omega) (by simp), <- hb, jb3]; rfl
        have h2c := je2 (c :: r) 2 (by simp; omega)
        rw [show decide ((1 : Int) < (b.size : Int)) = true from decide_eq_true (by omega)];conv => whnf
        refine ⟨⟨by omega, by omega, by omega⟩, ?_⟩;rw [hcut2];generalize hwd : bs ((c :: r).take 2) = wd at *;conv => whnf
        refine ja9 [0] rfl (fun _ => jjr jia wd (by decide)) ?_;rintro x rfl
        cases h2 : jcF jia wd with
        | true =>
         have htok : jbh (c :: r) = .tok 3 2 0 := by simp only [jbh, hL1, hD1, hwd, h2]
         conv => whnf
         refine ⟨⟨by omega, by omega, by omega⟩, ?_⟩;rw [hcut2];conv => whnf
         exact ⟨⟨3, p, wd, 0⟩, 0, ⟨rfl, rfl⟩, rfl, by show wd.size <= s.size; omega, .inl ⟨rfl, _, htok, hwd.symm⟩, (jgA rfl).trans (jic (by repeat' constructor))⟩
        | false =>
         rw [<- hwd] at h2;conv => whnf
         rw [jy8];generalize hwd1 : bs [c] = w1 at *
         cases h1 : jcF jpH w1 with
         | true =>
          have htok : jbh (c :: r) = .tok 3 1 0 := by simp only [jbh, hL1, hD1, h2, hwd1, h1]
          conv => whnf
          refine ⟨⟨by omega, by omega, by omega⟩, ?_⟩;rw [hcut1];conv => whnf
          exact ⟨⟨3, p, w1, 0⟩, 0, ⟨rfl, rfl⟩, rfl, by show w1.size <= s.size; omega, .inl ⟨rfl, _, htok, hwd1.symm⟩, (jgA rfl).trans (jic (by repeat' constructor))⟩
         | false =>
          have htok : jbh (c :: r) = .bad 10 := by simp only [jbh, hL1, hD1, h2, hwd1, h1]
          conv => whnf
          exact ⟨⟨0, p, ⟨#[]⟩, 0⟩, 10, ⟨rfl, rfl⟩, rfl, Nat.zero_le _, .inr ⟨by decide, htok⟩, (jgA rfl).trans (jic (by repeat' constructor))⟩
       ·have h2 : jcF jia (bs ((c :: r).take 2)) = false := by
         obtain rfl : r = [] := List.eq_nil_of_length_eq_zero (by omega)
         have : ∀ n : Fin 256, jcF jia (bs [UInt8.ofNat n.val]) = false := by decide +kernel
         have h := this ⟨c.toNat, c.toNat_lt⟩
         simpa using h
        rw [show decide ((1 : Int) < (b.size : Int)) = false from decide_eq_false (by omega)];conv => whnf
        rw [jy8];generalize hwd1 : bs [c] = w1 at *
        cases h1 : jcF jpH w1 with
        | true =>
         have htok : jbh (c :: r) = .tok 3 1 0 := by simp only [jbh, hL1, hD1, h2, hwd1, h1]
         conv => whnf
         refine ⟨⟨by omega, by omega, by omega⟩, ?_⟩;rw [hcut1];conv => whnf
         exact ⟨⟨3, p, w1, 0⟩, 0, ⟨rfl, rfl⟩, rfl, by show w1.size <= s.size; omega, .inl ⟨rfl, _, htok, hwd1.symm⟩, (jgA rfl).trans (jic (by repeat' constructor))⟩
        | false =>
         have htok : jbh (c :: r) = .bad 10 := by simp only [jbh, hL1, hD1, h2, hwd1, h1]
         conv => whnf
         exact ⟨⟨0, p, ⟨#[]⟩, 0⟩, 10, ⟨rfl, rfl⟩, rfl, Nat.zero_le _, .inr ⟨by decide, htok⟩, (jgA rfl).trans (jic (by repeat' constructor))⟩
  ·intro e s' a6 w6 hq hi6
   match e, hq with
   | .exit x, hq =>
    obtain ⟨rfl, p', hp1, hp2, hp3, hle⟩ := hq
    replace hi6 := hi6.le hle rfl
    obtain ⟨hk, hy⟩ := hi6.yielded hv hno
    obtain ⟨C', i1, i2, i3⟩ := hy w6 (KpB.refl B w6)
    refine ⟨⟨ts, p', C', i1, i2, i3, jbi hJ hj hk, hp2, by omega, hp3⟩, ?_⟩;rw [hp4, ji1 hi6 (i := 4) (v := .int .i64 p') rfl];simp only [intOf];omega
   | .ret, hq =>
    have hk : Keeps [] w w6 := by obtain ⟨E, hp, _, _⟩ := hi6; exact hp.keep
    change bodyPost Tryz.prog _ (fun e W' => (∃ v, e = .returned v) /\ ((∃ xs, jfk s xs /\ J xs W') ∨ (∃ pre, jhr s pre /\ Jx pre W'))) .ret a6 w6
    refine bodyPost_ret (results_none rfl _ _ _) (by obtain ⟨E, _, _, hd⟩ := hi6; exact hd) ⟨⟨_, rfl⟩, .inl ⟨_, ?_, jbi hJ hj hk⟩⟩;unfold jfk;rw [hq]
   | .normal, hq =>
    obtain ⟨tk, e, hcl, htp, htz, hgood, hle⟩ := hq
    replace hi6 := hi6.le hle rfl
    refine wpIn_seq (wpIn_seq (wpIn_region_lit ?_));refine jvp 5 hc hi6 ?_;conv => whnf
    intro a7 w7 hi7
    obtain ⟨hk, hy⟩ := hi7.yielded hv hno
    have e1 : a7.tmps.getD 98 undef = jx1 tk := juW hi7 (vs := [.int .i64 tk.kind, .int .i64 tk.pos, .string tk.text, .int .i64 tk.n]) rfl
    have e2 : a7.tmps.getD 101 undef = .agg #[.int .i64 p, .int .i64 e] := juW hi7 (vs := [.int .i64 p, .int .i64 e]) rfl
    have hclP : clP p = p := if_pos (by omega)
    have hclE : clE e = e := if_pos (by
     rcases hgood with ⟨h, _⟩ | ⟨_, h⟩
     ·omega
     ·exact joj h)
    have hlen : (ts.map itOk).length < s.size := by rw [List.length_map]; omega
    refine jmQ (l := l) (vals := jvX ⟨tk, p, e⟩) rfl rfl (ji1 hi7 (i := 97) (v := .func (.yield l) #[] #[]) rfl) (by rw [show Array.map a7.eval #[.tmp 98, .tmp 101] = #[a7.eval (.tmp 98), a7.eval (.tmp 101)] from by simp]; show #[a7.tmps.getD 98 undef, a7.tmps.getD 101 undef] = #[jx1 tk, .agg #[.int .i64 (clP p : Nat), .int .i64 (clE e)]]; rw [e1, e2, hclP, hclE]) (hY (ts.map itOk) ⟨tk, p, e⟩ w7 (jbi hJ hj hk) hlen) ?_;rintro x w8 (⟨rfl, hj8, hkp⟩ | ⟨rfl, hjx8⟩)
    ·refine ⟨_, rfl, ?_⟩
     obtain ⟨C', i1, i2, i3⟩ := hy w8 hkp
     refine jzb (G := fun a => wpListIn _ _ _ _ _ _ a _) i1 trivial ?_;conv => whnf
     intro a8 hi8;refine jn1 5 hc hi8 ?_;conv => whnf
     intro a9 w9 hi9
     have hd9 : a9.defers = [] := by obtain ⟨E, _, _, hd⟩ := hi9; exact hd
     obtain ⟨hk9, hy9⟩ := hi9.yielded i2 i3
     have hj9 := jbi hJ hj8 hk9
     rcases hgood with ⟨rfl, len, htok, htx⟩ | ⟨hne, htok⟩
     ·rw [hd, jjb hcl.1 hcl.2 htok, joa] at hinv
      have hl := jeu htok
      have hsz : tk.text.size = len := by rw [htx]; exact je2 _ _ hl.2
      refine jn9 (i := 107) (b := false) hi9 rfl ?_;rw [if_neg (by simp)];refine wpIn_skip (wpIn_region_lit ?_);refine jn1 6 hc hi9 ?_;conv => whnf
      refine ⟨jaL (by omega), ?_⟩;conv => whnf
      intro a10 w10 hi10
      replace hi10 := hi10.le (jic (s' := ⟨jwO l s L (p + len), [], []⟩) (by rw [<- hsz]; repeat' constructor)) rfl
      obtain ⟨hk10, hy10⟩ := hi10.yielded i2 i3
      obtain ⟨C2, j1, j2, j3⟩ := hy10 w10 (KpB.refl B w10)
      have htk : (⟨tk.kind, p, bs (List.take len (c :: r)), tk.n⟩ : Tk) = tk := by rw [<- htx, <- htp]
      have hit : (⟨tk, p, 0⟩ : It) = itOk tk := by unfold itOk; rw [htp]
      rw [hit] at hj8;refine ⟨⟨ts ++ [tk], p + len, C2, j1, j2, j3, ?_, by simp at hl; omega, by simp; omega, ?_⟩, ?_⟩
      ·rw [List.map_append];exact jbi hJ hj8 hk10
      ·rw [hd1 len, <- hinv, htk]
      ·rw [hp4, ji1 hi10 (i := 4) (v := .int .i64 (p + len : Nat)) rfl];simp only [intOf];omega
     ·refine jn9 (i := 107) (b := true) hi9 (by show A.v (.bool (!decide (e = 0))) = _; rw [decide_eq_false hne]; rfl) ?_;rw [if_pos rfl];refine wpIn_ret ?_
      change bodyPost Tryz.prog _ (fun e W' => (∃ v, e = .returned v) /\ ((∃ xs, jfk s xs /\ J xs W') ∨ (∃ pre, jhr s pre /\ Jx pre W'))) .ret a9 w9
      refine bodyPost_ret (results_none rfl _ _ _) hd9 ⟨⟨_, rfl⟩, .inl ⟨_, ?_, hj9⟩⟩;rw [hd, jo8 hcl.1 hcl.2 htok] at hinv;unfold jfk;rw [<- hinv];exact ⟨tk, by simp [Lx.app]⟩
    ·refine ⟨_, rfl, ?_⟩;refine jzb (G := fun a => wpListIn _ _ _ _ _ _ a _) hi7 trivial ?_;conv => whnf
     intro a8 hi8;refine jg7 hc.ok hi8 ?_;conv => whnf
     intro a9 hi9;refine jn9 (i := 107) (b := true) hi9 rfl ?_;rw [if_pos rfl];refine wpIn_ret ?_
     change bodyPost Tryz.prog _ (fun e W' => (∃ v, e = .returned v) /\ ((∃ xs, jfk s xs /\ J xs W') ∨ (∃ pre, jhr s pre /\ Jx pre W'))) .ret a9 w8
     refine bodyPost_ret (results_none rfl _ _ _) (by obtain ⟨E, _, _, hd⟩ := hi9; exact hd) ⟨⟨_, rfl⟩, .inr ⟨_, ?_, hjx8⟩⟩
     rcases hgood with ⟨rfl, len, htok, htx⟩ | ⟨hne, htok⟩
     ·rw [hd, jjb hcl.1 hcl.2 htok, joa] at hinv;generalize ji4 (p + len) (List.drop len (c :: r)) = rest at *
      have htk : (⟨tk.kind, p, bs (List.take len (c :: r)), tk.n⟩ : Tk) = tk := by rw [<- htx, <- htp]
      rw [htk] at hinv
      have hit : (⟨tk, p, 0⟩ : It) = itOk tk := by unfold itOk; rw [htp]
      rw [hit];unfold jhr jfk;rw [<- hinv]
      cases hr : rest.err with
      | none => exact ⟨(ts ++ [tk] ++ rest.toks).map itOk, by simp [Lx.app, hr], ⟨rest.toks.map itOk, by simp⟩⟩
      | some x => exact ⟨(ts ++ [tk] ++ rest.toks).map itOk ++ [⟨tk, x.1, x.2⟩], by simp only [Lx.app, hr]; exact ⟨tk, by simp⟩, ⟨rest.toks.map itOk ++ [⟨tk, x.1, x.2⟩], by simp⟩⟩
     ·rw [hd, jo8 hcl.1 hcl.2 htok] at hinv;refine ⟨_, ?_, List.prefix_rfl⟩;unfold jfk;rw [<- hinv];exact ⟨tk, by simp [Lx.app]⟩
 ·refine jaB (by simp; omega) ?_
  obtain rfl : p = s.size := by omega
  conv => whnf
  intro a' w' hi';rw [List.drop_of_length_le (by omega), jnW] at hinv
  obtain ⟨hk, hy⟩ := hi'.yielded hv hno
  change bodyPost Tryz.prog _ (fun e W' => (∃ v, e = .returned v) /\ ((∃ xs, jfk s xs /\ J xs W') ∨ (∃ pre, jhr s pre /\ Jx pre W'))) .normal a' w'
  refine bodyPost_end (results_none rfl _ _ _) (by obtain ⟨E, _, _, hd⟩ := hi'; exact hd) ⟨⟨_, rfl⟩, .inl ⟨_, ?_, jbi hJ hj hk⟩⟩;unfold jfk;rw [<- hinv]
  simp [Lx.app]
section
def jmY (ops : List Oper) : Bool := ops.all fun o => match o.op with
 | .defer _ => false
 | _ => true
theorem jtJ {n l : Nat} {P : Program} {o : Oper} {a : Act} {w : World} {K : Act -> World -> Prop} {Q : Exit -> Act -> World -> Prop} (hd : ∀ c, o.op ≠ .defer c) (h : o.wp P a w K Q) : o.wpIn (Fence.wide.inRound l) n P a w K Q := by
 refine ⟨fun _ _ => trivial, ?_⟩;rw [Oper.semAt_eq _ _ _ hd];unfold Oper.wp at h;generalize (execOp a.eval o).run P w = r at *
 match r, h with
 | .ok (.value v) w', h => exact h
 | .ok .skip w', h => exact h
 | .ok (.defer d) w', h => exact h
 | .ok (.enter f args) w', h => exact ⟨fun h' => by simp [Fence.wide] at h', CallsIn.inRound l (callsIn_wide.2 h)⟩
 | .ok (.row row args) w', h => exact ⟨fun h' => by simp [Fence.wide] at h', jlP h⟩
 | .halt (.panic v) w', h => exact h
theorem jnC {n l : Nat} {P : Program} {ops : List Oper} {Q : Exit -> Act -> World -> Prop} (hd : jmY ops = true) (hQ : ¬ LetsOut Q) : ∀ {is : List Nat} {a : Act} {w : World}, wpOps P ops.toArray Q is a w -> wpOpsIn (Fence.wide.inRound l) n P ops.toArray Q is a w
 | [], a, w, h => h
 | i :: rest, a, w, h => by
  unfold wpOps at h;unfold wpOpsIn
  cases ho : ops.toArray[i]? with
  | none =>
   rw [ho] at h;exact jnC hd hQ h
  | some o =>
   rw [ho] at h
   simp only at h ⊢
   have hmem : o ∈ ops := by
    have : ops[i]? = some o := by simpa using ho
    exact List.mem_iff_getElem?.2 ⟨i, this⟩
   have hnd : ∀ c, o.op ≠ .defer c := fun c e => by
    have := List.all_eq_true.1 hd o hmem
    rw [e] at this
    cases this
   split at h
   ·rename_i hw
    rw [if_pos hw]
    rcases h with h | h
    ·refine jtJ hnd ?_;exact Oper.wp_mono (fun a' w' h' => jnC hd hQ h') h
    ·exact absurd h.2 hQ
   ·rename_i hw
    rw [if_neg hw];exact ⟨fun _ _ => trivial, jnC hd hQ h⟩
def joX (K : Act -> World -> Prop) : Exit -> Act -> World -> Prop
 | .normal, a, w => K a w
 | _, _, _ => False
section
variable {c : Cx} {w0 : W0} {w : World} {C0 : Rd} {β0 : List Nat} {s : S} {a : Act}
theorem jvy {K : Act -> World -> Prop} : ¬ LetsOut (jss c [] w0 C0 β0 (joX K)) := by
 rintro ⟨a, w, h⟩
 simp [jss, joX] at h
theorem jv5 {id lp n : Nat} {ops : List Oper} {X : List Nat} {l : Tr} {K : S -> Prop} {Kc : Act -> World -> Prop} (hc : c.okN) (hi : Inv [] w0 C0 β0 s a w) (hX : jkw X s.bx.length = true) (hB : jha ops.toArray l = true) (hnd : jmY ops = true)
  (h : jsq c (xrB X) s.bx.length ops l 0 s K) (hk : ∀ s' a' w', K s' -> Inv [] w0 C0 β0 s' a' w' -> Kc a' w') {Q : Exit -> Act -> World -> Prop} (hQ : ∀ a w, Kc a w -> Q .normal a w) : (Code.region id ops.toArray true).wpIn (Fence.wide.inRound lp) n c.P Q a w := by
 obtain ⟨E, hp, ht, hd⟩ := hi
 rw [hp.bl] at h
 have hk0 : jtL (xrB X) E w.drew w.drew := ⟨fun _ _ _ _ => rfl, (je8 hp).sub⟩
 have hT : wpT c.P ops.toArray (jss c [] w0 C0 β0 (joX Kc)) (jtL (xrB X) E w.drew) l a w.drew :=
  jct rfl (Q := joX Kc) hc.ok ⟨0, rfl⟩ (je8 hp) ht hd (fun _ => ⟨Sub.refl _, fun _ _ h => h, hk0⟩) (fun _ => rfl) h hk
 simp only [jha, Bool.and_eq_true, decide_eq_true_eq] at hB
 have hA := jmq (md := .any) hB.1.1 jnX _ l _ a _ hB.1.2 hB.2 hT
 have : (Code.region id ops.toArray true).wpIn (Fence.wide.inRound lp) n c.P (jss c [] w0 C0 β0 (joX Kc)) a w := wpIn_region_draw fun t => by
  simp only [Region.schedule, hc.ok.m, Bool.true_or, if_true];exact jnC hnd jvy (wpAny_sound ops.toArray.size t _ a _ hA)
 refine wpIn_mono this fun e a' w' h => ?_
 cases e with
 | normal => exact hQ _ _ h
 | panic ch => obtain ⟨s', h1, _⟩ := h; exact absurd h1 (hc.no ch s')
 | _ => simp [jss, joX] at h
theorem jq2 {id lp n : Nat} {ops : List Oper} {Q : Exit -> Act -> World -> Prop} (hc : c.okN) (hi : Inv [] w0 C0 β0 s a w) (hfl : Tr.isFlow (c.ord id) = false) (hfl2 : Tr.isFlowL (c.ord id) = false) (ho : jha ops.toArray (c.ord id) = true) (hnd : jmY ops = true)
  (h : jdK c id ops.toArray true s fun e s' => e = .normal /\ ∀ a' w', Inv [] w0 C0 β0 s' a' w' -> Q .normal a' w') : (Code.region id ops.toArray true).wpIn (Fence.wide.inRound lp) n c.P Q a w := by
 unfold jdK at h
 simp only at h
 split at h
 ·rename_i hx
  rw [hfl] at h
  simp only at h
  rw [hfl2] at h
  simp only at h
  split at h
  ·exact jv5 (c := c.kill) ⟨hc.ok.kill, fun ch s' h => hc.no ch _ h⟩ hi hx ho hnd h (Kc := Q .normal) (fun s' a' w' h1 h2 => h1.2 a' w' h2) fun _ _ h => h
  ·unfold jih at h
   obtain ⟨φ, h, h'⟩ := h
   exact jv5 (c := c.kill) ⟨hc.ok.kill, fun ch s' h => hc.no ch _ h⟩ hi hx ho hnd h (Kc := Q .normal) (fun s' a' w' h1 h2 => (h' _ h1).2 a' w' h2) fun _ _ h => h
 ·exact h.elim
theorem jzi {W : World} {β : List Nat} {bx : List (List A)} {t : List A} (h0 : Gok C0 W) (h1 : Sub C0 (see W)) (hnd : β.Nodup) (hbC : ∀ b ∈ β, ∀ o sp, C0 ⟨b, o, sp⟩ = none) (hbl : bx.length = β.length) (hbx : ∀ (i b : Nat) (cs : List A), β[i]? = some b -> bx[i]? = some cs -> boxAt W ⟨C0, β, []⟩ b cs)
  (ht : A.repL t ⟨C0, β, []⟩ a.tmps.toList) (hd : a.defers = []) : Inv [] (.of W) C0 β ⟨t, bx, []⟩ a W :=
 ⟨⟨C0, β, []⟩, ⟨h1, Sub.refl _, fun _ _ hc => .inl hc, ⟨[], by simp, by simp⟩, hnd, hbC, hbl, hbx, rfl, fun g r y hg => by simp at hg, fun g e k n cs y b hg => by simp at hg, fun g e k n cs y h' e' k' n' cs' z b _ hg => by simp at hg, fun g y hg => by simp at hg, Keeps.refl _ _, jxa h0⟩, ht, hd⟩
theorem jjk (hi : Inv [] w0 C0 β0 s a w) {i b : Nat} {x : Value} (hβ : β0[i]? = some b) (hbx : s.bx[i]? = some [.v x]) : w.cell? ⟨b, 0, none⟩ = some x := by
 obtain ⟨E, hp, ht, hd⟩ := hi
 obtain ⟨β', e1, e2⟩ := hp.bp
 have h1 : E.β[i]? = some b := by
  rw [e1, List.getElem?_append_left (List.getElem?_eq_some_iff.1 hβ).1];exact hβ
 obtain ⟨T, arr, q1, q2⟩ := hp.bxs i b _ h1 hbx
 have := jhm (vs := [x]) q2.1
 have e : arr = #[x] := by
  apply Array.toList_inj.1
  rw [this]
 simp [see, World.cell?, q1, e]
theorem jn0 {W : World} {E : Env} {b : Nat} {T : TypeId} {x : Value} (h : Boxed W b T x) (hx : okV x) : boxAt W E b [.v x] := ⟨T, #[x], h, .mk' ⟨x, [], rfl, jgb hx, A.rep_v hx, rfl⟩⟩
theorem jwN {P : Program} {T : List (Nat × Te)} {t : Nat} {e : Te} {W : World} {ad : Addr} {v : Value} (hT : Tab.ok P T) (h : Tab.get T t = some e) (ha : e.d.agg = false) (hc : W.cell? ad = some v) : (loadVar t ad).run P W = .ok v W := by
 have q1 := hT.agg h W
 rw [ha] at q1
 simp [loadVar, q1, load, Sem.run, hc, Result.andThen]
theorem jnx {P : Program} {T : List (Nat × Te)} (hT : Tab.ok P T) {fn : Func} {a1 a2 a3 t1 t2 t3 : Nat} {e1 e2 e3 : Te} {tmps : Array Value} {W : World} {d1 d2 d3 : Addr} {v1 v2 v3 : Value} (hr : fn.results = #[.cell a1 t1, .cell a2 t2, .cell a3 t3])
  (p1 : tmps.getD a1 undef = .pointer (some d1)) (p2 : tmps.getD a2 undef = .pointer (some d2)) (p3 : tmps.getD a3 undef = .pointer (some d3))
  (g1 : Tab.get T t1 = some e1) (g2 : Tab.get T t2 = some e2) (g3 : Tab.get T t3 = some e3) (k1 : e1.d.agg = false) (k2 : e2.d.agg = false) (k3 : e3.d.agg = false)
  (c1 : W.cell? d1 = some v1) (c2 : W.cell? d2 = some v2) (c3 : W.cell? d3 = some v3) : (results fn tmps).run P W = .ok (.tuple #[v1, v2, v3]) W := by
 have he : results fn tmps = (do let vs <- fn.results.mapM (jwQ tmps); pure (if h : vs.size = 1 then vs[0] else .tuple vs)) := by
  unfold results
  congr 1
 have f : ∀ {x t d v}, tmps.getD x undef = .pointer (some d) -> (loadVar t d).run P W = .ok v W -> (jwQ tmps (.cell x t)).run P W = .ok v W := fun h1 h2 => by
  simp only [jwQ, h1, asAddr]
  simpa [Result.andThen] using h2
 have r1 := f (t := t1) p1 (jwN hT g1 k1 c1)
 have r2 := f (t := t2) p2 (jwN hT g2 k2 c2)
 have r3 := f (t := t3) p3 (jwN hT g3 k3 c3)
 rw [he, hr]
 simp [r1, r2, r3, Result.andThen]
end
end
attribute [local go_sem] Oper.semAt_some
theorem jcA {F : Fence} {n : Nat} {P : Program} (w : World) {ops : Array Oper} {rest : List Oper} {o : Oper} {a : Act} {Q : Exit -> Act -> World -> Prop}
  (hg : o.guard = none) (s x : Operand) (t : TypeId) (hop : o.op = Op.call { callee := Callee.builtin Builtin.append, args := #[s, x], argTypes := #[t, t] })
  (base : Nat) (e : TypeId) (i : TypeInfo) (z : Value) (size bytes : Nat) (h1 : P.underlying t = some (.slice e)) (h2 : P.info? e = some i) (h3 : i.zero = some z) (h4 : i.size = size) (h5 : i.bytes = bytes) (h6 : z.cells.size = size) (h7 : 0 < size)
  (v : Value) (k : Nat) (xs : List Value) (hs : a.eval s = v) (hown : w.ownsRow base e size v k xs) (ad : Addr) (m c : Nat) (news : List Value) (hx : a.eval x = .slice (some ad) m c) (hn : news.length = m * size)
  (hc : ∀ j u, news[j]? = some u -> w.cell? (ad.add j) = some u) (h1c : ∀ u ∈ news, u.oneCell' = true) (b1 : k + m <= maxLen) (b2 : (k + m) * bytes <= 140737488355328) (b3 : base <= w.heap.size)
  (hK : ∀ v' w', w'.ownsRow base e size v' (k + m) (xs ++ news) -> w.grownBy w' v.ownBlock -> (v'.ownBlock = v.ownBlock ∨ v'.ownBlock = some w.heap.size) -> wpListIn F n P ops Q rest (a.put o.dst v') w') :
  wpListIn F n P ops Q (o :: rest) a w := by
 refine wpListIn_plain hg fun K hK' => ?_
 obtain ⟨v', w', hrun, r1, r2, r3⟩ := jex (P := P) w base t o.type e i z size bytes h1 h2 h3 h4 h5 h6 h7 v k xs hown (some ad) m c news hn (fun e => by cases e) (fun a e => by cases e; exact hc) h1c b1 b2 b3
 unfold Oper.wpIn;refine ⟨?_, ?_⟩
 ·simp [Oper.about, hop, resolve, Target.leads, Sem.run_pure]
 ·rw [Oper.semAt_plain F _ _ (by rw [hop]; intro c hc'; cases hc')]
  simp [execOp, hop, resolve, invoke, builtin, hs, hx, hrun, Result.andThen]
  exact hK' _ _ (hK v' w' r1 r2 r3)
theorem jiK (W : World) (a b c d : Value) (T : TypeId) : ∀ (j : Nat) (u : Value), [a, b, c, d][j]? = some u -> (W.alloc (.cells #[a, b, c, d] T)).cell? ((⟨W.heap.size, 0, none⟩ : Addr).add j) = some u := fun j u h => by
 have e : (⟨W.heap.size, 0, none⟩ : Addr).add j = ⟨W.heap.size, j, none⟩ := by unfold Addr.add; split <;> simp_all
 rw [e]
 have := World.alloc_heap_new W (.cells #[a, b, c, d] T)
 simp only [World.cell?, this]
 simpa using h
def tkV (t : Tk) : List Value := [.int .i64 t.kind, .int .i64 t.pos, .string t.text, .int .i64 t.n]
def jmX (l : List Tk) : List Value := l.flatMap tkV
theorem jwf : (Tryz.prog.info? 54).map (fun i => (i.zero, i.size, i.bytes)) = some (some (.agg #[.int .i64 0, .int .i64 0, .string ⟨#[]⟩, .int .i64 0]), 4, 40) := by kernel_rfl
theorem jw6 (s : ByteArray) (hs : s.size <= 1000000000) (m : Nat) (w1 : World) (C : Rd) (hg : Gok C w1) (hsub : Sub C (see w1)) : CallsIn Fence.wide m Tryz.prog 48 #[.string s] w1 fun e w2 =>
  ∃ us : Array Value, e = .returned (.func (.func 74) #[] us) /\ Keeps [] w1 w2 /\ A.repL [.pp [.v (.string s)], .pp (jbo classOf)] ⟨jbq C w1 w2, [], []⟩ us.toList := by
 refine callsIn_wide.2 (((js1 s).2 w1 C [] [.string s] hg hsub List.nodup_nil (by simp) rfl (fun i b cs hb => by simp at hb) ?_).mono ?_)
 ·exact ⟨_, _, rfl, A.rep_v (by show s.size <= maxLen; exact juJ hs), rfl⟩
 ·rintro e w2 ⟨outs, r, v, rfl, rfl, hk, _, _, hv⟩;unfold A.rep at hv
  obtain ⟨us, rfl, hus⟩ := hv
  exact ⟨us, rfl, hk, hus⟩
theorem jpU {W w1 : World} {n₀ B g n k : Nat} {t e : TypeId} {y : Value} {cap m : Nat} {xs ys : List Value} {tmp : Obj} (c5 : Boxed W B t y) (hrow : W.ownsRow n₀ e 4 y k xs) (hgrow : (W.alloc tmp).grownBy w1 y.ownBlock) (hw : (Value.slice (some ⟨g, 0, none⟩) m cap).ownBlock = y.ownBlock ∨ (Value.slice (some ⟨g, 0, none⟩) m cap).ownBlock = some (W.alloc tmp).heap.size)
  (hv2 : Boxed (w1.setCell ⟨B, 0, none⟩ (.slice (some ⟨g, 0, none⟩) m cap)) B t (.slice (some ⟨g, 0, none⟩) m cap)) (hr2 : (w1.setCell ⟨B, 0, none⟩ (.slice (some ⟨g, 0, none⟩) m cap)).ownsRow n₀ e 4 (.slice (some ⟨g, 0, none⟩) m cap) n ys) : KpB B W (w1.setCell ⟨B, 0, none⟩ (.slice (some ⟨g, 0, none⟩) m cap)) := fun hv => by
 have hsz : W.heap.size <= (w1.setCell ⟨B, 0, none⟩ (.slice (some ⟨g, 0, none⟩) m cap)).heap.size := by
  have h1 := hgrow.size
  have h2 := (grownBy_setCell' w1 B (.slice (some ⟨g, 0, none⟩) m cap)).size
  rw [World.size_alloc] at h1;omega
 have hg2 : ∀ b, jiH B (w1.setCell ⟨B, 0, none⟩ (.slice (some ⟨g, 0, none⟩) m cap)) b -> b = B ∨ b = g := fun b hb => by
  rcases hb with hb | ⟨a, l, c, h1, h2⟩
  ·exact .inl hb
  ·rw [hv2.cell] at h1
   cases h1
   exact .inr h2.symm
 have hgl : g < (w1.setCell ⟨B, 0, none⟩ (.slice (some ⟨g, 0, none⟩) m cap)).heap.size := by
  rcases hr2.2 with ⟨h, _⟩ | ⟨g2, cap2, cur, h, _, hgb, _⟩
  ·cases h
  ·cases h
   exact jcB hgb
 have hyg : ∀ b, y.ownBlock = some b -> jiH B W b := fun b hb => by
  rcases hrow.2 with ⟨rfl, _⟩ | ⟨g2, cap2, cur, rfl, _, hgb, _⟩
  ·simp [Value.ownBlock] at hb
  ·exact .inr ⟨_, _, _, c5.cell, by simpa [Value.ownBlock] using hb⟩
 refine ⟨⟨⟨_, hv2, rfl⟩, fun b hb => ?_⟩, hsz, fun b hb => ?_, fun b o hb ho hn => ?_⟩
 ·rcases hg2 b hb with rfl | rfl
  ·exact hv2.lt
  ·exact hgl
 ·rcases hg2 b hb with rfl | rfl
  ·exact .inl (.inl rfl)
  ·rcases hw with hw | hw
   ·exact .inl (hyg _ (by rw [<- hw]; simp [Value.ownBlock]))
   ·have : b = W.heap.size + 1 := by simpa [Value.ownBlock] using hw
    exact .inr (by omega)
 ·have h1 : (W.alloc tmp).heap[b]? = some o := (Below.heap_alloc _ _ _ (jcB hb)).trans hb
  have h2 : w1.heap[b]? = some o := (hgrow.block b (jcB h1) fun e => hn (hyg b e.symm)).trans h1
  refine ((grownBy_setCell' w1 B _).block b (jcB h2) fun e => hn (.inl ?_)).trans h2
  cases e
  rfl
def jAY (w : World) (pre : List It) (W : World) : Prop := (∀ x ∈ pre, clE x.err = 0) /\ Boxed W w.heap.size 50 (.slice none 0 0) /\ Boxed W (w.heap.size + 1) 3 (.int .i64 0) /\ Boxed W (w.heap.size + 1 + 1) 47 (.int .i64 0) ∧
 (∃ y, Boxed W (w.heap.size + 1 + 1 + 1) 50 y /\ W.ownsRow w.heap.size 54 4 y pre.length (jmX (pre.map It.tok))) /\ Below w.heap.size w W
def jB5 (w : World) (c : Code) (pre : List It) (W : World) : Prop := c = .ret /\ ∃ q x, pre = q ++ [x] /\ clE x.err ≠ 0 /\ W.cell? ⟨w.heap.size, 0, none⟩ = some (.slice none 0 0) /\ W.cell? ⟨w.heap.size + 1, 0, none⟩ = some (.int .i64 (clP x.pos : Nat)) /\ W.cell? ⟨w.heap.size + 1 + 1, 0, none⟩ = some (.int .i64 (clE x.err)) /\ Below w.heap.size w W
def jAc (s : ByteArray) (us : Array Value) (w : World) (x : It) (b6 b7 : Nat) : Array Value :=
 #[.string s, undef, .pointer (some ⟨w.heap.size, 0, none⟩), .pointer (some ⟨w.heap.size + 1, 0, none⟩), .pointer (some ⟨w.heap.size + 1 + 1, 0, none⟩), .pointer (some ⟨w.heap.size + 1 + 1 + 1, 0, none⟩), .pointer (some ⟨b6, 0, none⟩), .pointer (some ⟨b7, 0, none⟩), .string s, .func (.func 74) #[] us,
  jx1 x.tok, .agg #[.int .i64 (clP x.pos : Nat), .int .i64 (clE x.err)], undef, undef, undef, undef, undef, undef, undef, undef, undef, undef, undef, undef, undef, undef, undef, undef, undef]
def jzF (s : ByteArray) (us : Array Value) (w : World) (x : It) (a' : Act) (W : World) : Prop := ∃ b6 b7, a' = { tmps := jAc s us w x b6 b7, defers := [] } /\ W.heap[b6]? = some (.cells (tkV x.tok).toArray 54 (0, 0)) /\ W.heap[b7]? = some (.cells #[.int .i64 (clP x.pos : Nat), .int .i64 (clE x.err)] 89 (0, 0))
theorem jd9 {X Y : World} {row : Option Nat} {b B : Nat} {o : Obj} (h : X.heap[b]? = some o) (ho : o.isCells = true) (hg : X.grownBy Y row) (hrow : ∀ r, row = some r -> B <= r /\ ∃ o : Obj, X.heap[r]? = some o /\ o.isCells = false) : Y.heap[b]? = some o := by
 refine (hg.block b (jcB h) fun e => ?_).trans h
 obtain ⟨_, o2, h1, h2⟩ := hrow b e.symm
 rw [h] at h1
 cases h1
 rw [ho] at h2
 cases h2
theorem jsB (s : ByteArray) (us : Array Value) (w : World) (x : It) (a' : Act) (B : Nat) : OwnFrom B (fun (_ : Unit) W => jzF s us w x a' W) := by
 rintro _ X Y row ⟨b6, b7, e, h1, h2⟩ hg hrow;exact ⟨b6, b7, e, jd9 h1 rfl hg hrow, jd9 h2 rfl hg hrow⟩
theorem jjz (w : World) (B : Nat) (hB : w.heap.size <= B) : OwnFrom B (jAY w) := by
 rintro pre X Y row ⟨e, h1, h2, h3, ⟨y, h4, h5⟩, h6⟩ hg hrow;refine ⟨e, jd9 h1 rfl hg hrow, jd9 h2 rfl hg hrow, jd9 h3 rfl hg hrow, ⟨y, jd9 h4 rfl hg hrow, h5.kept hg ?_⟩, h6.grown hg h6.size fun k e => by have := (hrow k e).1; omega⟩
 rcases h5.2 with ⟨rfl, _⟩ | ⟨g, cap, cur, rfl, _, hgb, _⟩
 ·exact .inl rfl
 ·refine .inr fun e' => ?_
  obtain ⟨_, o, ho, hc⟩ := hrow g (by simpa [Value.ownBlock] using e'.symm)
  rw [hgb] at ho; cases ho; cases hc
theorem jg1 {X Y : World} {row : Option Nat} {a : Addr} {v : Value} {B : Nat} (h : X.cell? a = some v) (hg : X.grownBy Y row) (hrow : ∀ r, row = some r -> B <= r /\ ∃ o : Obj, X.heap[r]? = some o /\ o.isCells = false) : Y.cell? a = some v := cell_kept h hg fun r e => (hrow r e).2
theorem jt5 (w : World) (B : Nat) (hB : w.heap.size <= B) (c : Code) : OwnFrom B (jB5 w c) := by
 rintro pre X Y row ⟨e, q, x, e2, e3, h1, h2, h3, h6⟩ hg hrow;exact ⟨e, q, x, e2, e3, jg1 h1 hg hrow, jg1 h2 hg hrow, jg1 h3 hg hrow, h6.grown hg h6.size fun k e => by have := (hrow k e).1; omega⟩
theorem jdP : ∀ (f p : Nat) (l : List UInt8), (jeZ f p l).toks.length <= l.length /\ ∀ q e, (jeZ f p l).err = some (q, e) -> q <= p + l.length /\ e ≠ 0 /\ 0 <= e /\ e <= 100
 | 0, p, l => by simp [jeZ]
 | f + 1, p, [] => by simp [jeZ]
 | f + 1, p, c :: r => by
  rw [jeZ]
  split
  ·obtain ⟨h1, h2⟩ := jdP f (p + 1 + jaf jeY r) (r.drop (jaf jeY r))
   have hle := jci jeY r
   rw [List.length_drop] at h1 h2;refine ⟨by simp; omega, fun q e h => ?_⟩
   obtain ⟨h3, h4⟩ := h2 q e h
   exact ⟨by simp; omega, h4⟩
  ·split
   ·obtain ⟨h1, h2⟩ := jdP f (p + 1) r
    refine ⟨by simp; omega, fun q e h => ?_⟩
    obtain ⟨h3, h4⟩ := h2 q e h
    exact ⟨by simp; omega, h4⟩
   ·cases ht : jbh (c :: r) with
    | bad e =>
     refine ⟨by simp, fun q e' h => ?_⟩
     cases h
     exact ⟨by simp, jtu ht, joj ht⟩
    | tok k len n =>
     have hl := jeu ht
     obtain ⟨h1, h2⟩ := jdP f (p + len) ((c :: r).drop len)
     rw [List.length_drop] at h1 h2;refine ⟨by simp only [Lx.cons, List.length_cons] at hl h1 ⊢; omega, fun q e h => ?_⟩
     obtain ⟨h3, h4⟩ := h2 q e h
     exact ⟨by omega, h4⟩
theorem jum {e : Int} (h : 0 <= e /\ e <= 100) : clE e = e := if_pos h
theorem jvT {l : List UInt8} {k : Int} {len : Nat} {n : Int} (h : jbh l = .tok k len n) : (1 <= k /\ k <= 3) /\ 0 <= n /\ n <= 2147483647 := by
 cases l with
 | nil => simp [jbh] at h
 | cons c r =>
  cases hL : isL c
  ·cases hD : isD c
   ·cases h3 : jcF jia (bs ((c :: r).take 2))
    ·cases h4 : jcF jpH (bs [c])
     ·simp only [jbh, hL, hD, h3, h4] at h
      cases h
     ·simp only [jbh, hL, hD, h3, h4] at h
      cases h; decide
    ·simp only [jbh, hL, hD, h3] at h
     cases h; decide
   ·simp only [jbh, hL, hD] at h
    have hm := jk2 (c :: r.take (jaf isD r)) 0 (by omega)
    split at h
    ·cases h
    ·rename_i hv
     cases h
     exact ⟨by decide, by omega, hm⟩
  ·simp only [jbh, hL] at h
   split at h
   ·cases h
   ·cases h; decide
def jAf (t : Tk) : Prop := (1 <= t.kind /\ t.kind <= 3) /\ t.pos <= 1000000000 /\ t.text.size <= 1000000000 /\ 0 <= t.n /\ t.n <= 2147483647
theorem jh7 : ∀ (f p : Nat) (l : List UInt8), p + l.length <= 1000000000 -> ∀ t ∈ (jeZ f p l).toks, jAf t
 | 0, p, l, _ => by simp [jeZ]
 | f + 1, p, [], _ => by simp [jeZ]
 | f + 1, p, c :: r, hp => by
  rw [jeZ];simp only [List.length_cons] at hp
  split
  ·have hle := jci jeY r
   exact jh7 f _ _ (by rw [List.length_drop]; omega)
  ·split
   ·exact jh7 f _ _ (by omega)
   ·cases ht : jbh (c :: r) with
    | bad e => simp
    | tok k len n =>
     have hl := jeu ht
     have hk := jvT ht
     simp only [List.length_cons] at hl;intro t hm;simp only [Lx.cons, List.mem_cons] at hm
     rcases hm with rfl | hm
     ·exact ⟨hk.1, by show p <= _; omega, by show (bs ((c :: r).take len)).size <= _; rw [jbB, List.length_take]; simp; omega, hk.2⟩
     ·exact jh7 f _ _ (by rw [List.length_drop]; simp; omega) t hm
theorem jv9 {E : Env} {t : Tk} (h : jAf t ∨ t.kind = 0 /\ t.pos <= 1000000000 /\ t.text.size = 0 /\ t.n = 0) : A.repC (tkL t) E (tkV t) := by
 have h2 : (0 <= t.kind /\ t.kind <= 3) /\ t.pos <= 1000000000 /\ t.text.size <= 1000000000 /\ 0 <= t.n /\ t.n <= 2147483647 := by
  rcases h with ⟨h1, h2, h3, h4⟩ | ⟨h1, h2, h3, h4⟩
  ·exact ⟨by omega, h2, h3, h4⟩
  ·exact ⟨by omega, h2, by omega, by omega⟩
 obtain ⟨h1, h3, h4, h5⟩ := h2
 exact ⟨_, _, rfl, rfl, A.rep_v (okV_int.2 (jaL (by omega))), _, _, rfl, rfl, A.rep_v (okV_int.2 (jaL (by omega))), _, _, rfl, rfl, A.rep_v (juJ h4), _, _, rfl, rfl, A.rep_v (okV_int.2 (jaL (by omega))), rfl⟩
theorem jqE {E : Env} : ∀ {l : List Tk}, (∀ t ∈ l, jAf t) -> A.repC (jer l) E (jmX l)
 | [], _ => by simp [jer, jmX, A.repC]
 | t :: l, h => by
  have : jer (t :: l) = tkL t ++ jer l := rfl
  rw [this, show jmX (t :: l) = tkV t ++ jmX l from rfl];exact A.repC_append (jv9 (.inl (h t (by simp)))) (jqE fun u hu => h u (by simp [hu]))
theorem jxB {s : ByteArray} {ys : List It} (h : jfk s ys) (hp : ∀ x ∈ ys, clE x.err = 0) : (jb4 s).err = none /\ ys = (jb4 s).toks.map itOk := by
 unfold jfk at h
 split at h
 ·rename_i he
  exact ⟨he, h⟩
 ·rename_i q e he
  obtain ⟨t, rfl⟩ := h
  have h1 := (jdP _ _ _).2 q e he
  have h2 := hp ⟨t, q, e⟩ (by simp)
  simp only at h2
  rw [jum h1.2.2] at h2;exact absurd h2 h1.2.1
theorem jth {s : ByteArray} (hs : s.size <= 1000000000) {pre : List It} {x : It} (h : jhr s (pre ++ [x])) (hx : clE x.err ≠ 0) : (jb4 s).err = some (x.pos, x.err) /\ clP x.pos = x.pos /\ clE x.err = x.err := by
 obtain ⟨ys, h1, h2⟩ := h
 have hm : x ∈ ys := h2.subset (by simp)
 have hit : ∀ t : Tk, (itOk t).err = 0 := fun _ => rfl
 have hz : clE 0 = 0 := rfl
 unfold jfk at h1
 split at h1
 ·subst h1
  obtain ⟨t, _, rfl⟩ := List.mem_map.1 hm
  exact absurd hz hx
 ·rename_i q e he
  obtain ⟨t, rfl⟩ := h1
  rcases List.mem_append.1 hm with hm | hm
  ·obtain ⟨t, _, rfl⟩ := List.mem_map.1 hm
   exact absurd hz hx
  ·obtain rfl : x = ⟨t, q, e⟩ := by simpa using hm
   have h3 := (jdP _ _ _).2 q e he
   have hsl := jbv s
   exact ⟨he, (show clP q = q from if_pos (by omega)), jum h3.2.2⟩
theorem jq6 {p q : Prop} (h : p) (k : q) : p /\ q := ⟨h, k⟩
def jko (s : ByteArray) : List Tk := match (jb4 s).err with | some _ => [] | none => (jb4 s).toks ++ [jf1 s]
theorem jda {s : ByteArray} (h : (jb4 s).err = none) : jko s = (jb4 s).toks ++ [jf1 s] := by unfold jko; rw [h]
theorem jqD {s : ByteArray} {p : Nat × Int} (h : (jb4 s).err = some p) : jko s = [] := by unfold jko; rw [h]
def jzo (s : ByteArray) : Int × Int := match (jb4 s).err with | some (p, e) => (p, e) | none => (0, 0)
structure jA7 (s : ByteArray) (w W' : World) (v : Value) : Prop where
 ex : ∃ y, v = .tuple #[y, .int .i64 (jzo s).1, .int .i64 (jzo s).2] /\ W'.ownsRow w.heap.size 54 4 y (jko s).length (jmX (jko s))
set_option maxRecDepth 100000 in
set_option maxHeartbeats 2000000 in
theorem js2 (s : ByteArray) (hs : s.size <= 1000000000) (w : World) (C : Rd) (hg : Gok C w) (hsub : Sub C (see w)) :
  CallsIn Fence.wide 5 Tryz.prog 30 #[.string s] w fun e W' => ∃ v, e = .returned v /\ Below w.heap.size w W' /\ (jwU s).rep ⟨jbq C w W', [], []⟩ v /\ jA7 s w W' v := by
 obtain ⟨i0, hi, hz0, hz1, hz2⟩ := info_parts jwf
 refine callsIn_of_wp_marks Tryz.func30 rfl trivial ?_;simp only [Tryz.ntmps30, List.size_toArray, List.length_cons, List.length_nil, Nat.reduceAdd, Nat.reduceSub, Array.replicate_succ, Array.replicate_zero, List.push_toArray, List.append_toArray, List.nil_append, List.cons_append]
 obtain ⟨W0, hW0⟩ : ∃ W0, W0 = (((w.alloc (.cells #[.slice none 0 0] 50)).alloc (.cells #[.int .i64 0] 3)).alloc (.cells #[.int .i64 0] 47)).alloc (.cells #[.slice none 0 0] 50) := ⟨_, rfl⟩
 have kp0 : Keeps [] w W0 := by
  rw [hW0];exact (((Keeps.alloc w _).trans (Keeps.alloc _ _)).trans (Keeps.alloc _ _)).trans (Keeps.alloc _ _)
 have hsub0 : Sub C (see W0) := fun ad u hc => kp0.cell (hsub ad u hc) (by simp)
 have hg0 : Gok C W0 := hg.keep kp0 (by simp)
 have hF : Fence.wide.fn 48 := trivial
 gi_wp2_with (gi_at_call 48; rw [<- hW0]; refine (jw6 s hs _ W0 C hg0 hsub0).mono ?_; rintro e w2 ⟨us, rfl, hk, hus⟩)
 have hsz0 : W0.heap.size = w.heap.size + 1 + 1 + 1 + 1 := by rw [hW0]; simp
 have hB2 : Below w.heap.size w w2 := by
  have : Below w.heap.size w W0 := by
   rw [hW0];exact ((((Below.refl _ w).alloc (Nat.le_refl _) _).alloc (by simp) _).alloc (by simp; omega) _).alloc (by simp; omega) _
  exact this.trans ((Keeps.ext hk).mono (by omega))
 have bx2 : Boxed w2 w.heap.size 50 (.slice none 0 0) := (hk.block _ (by omega) (by simp)).trans (by rw [hW0]; exact (((Boxed.new w _ _).alloc _).alloc _).alloc _)
 have bx3 : Boxed w2 (w.heap.size + 1) 3 (.int .i64 0) := (hk.block _ (by omega) (by simp)).trans (by rw [hW0]; have := Boxed.new (w.alloc (.cells #[.slice none 0 0] 50)) 3 (.int .i64 0); rw [World.size_alloc] at this; exact (this.alloc _).alloc _)
 have bx4 : Boxed w2 (w.heap.size + 1 + 1) 47 (.int .i64 0) := (hk.block _ (by omega) (by simp)).trans (by rw [hW0]; have := Boxed.new ((w.alloc (.cells #[.slice none 0 0] 50)).alloc (.cells #[.int .i64 0] 3)) 47 (.int .i64 0); rw [World.size_alloc, World.size_alloc] at this; exact this.alloc _)
 have bx5 : Boxed w2 (w.heap.size + 1 + 1 + 1) 50 (.slice none 0 0) := (hk.block _ (by omega) (by simp)).trans (by rw [hW0]; have := Boxed.new (((w.alloc (.cells #[.slice none 0 0] 50)).alloc (.cells #[.int .i64 0] 3)).alloc (.cells #[.int .i64 0] 47)) 50 (.slice none 0 0); rw [World.size_alloc, World.size_alloc, World.size_alloc] at this; exact this)
 have hown : ∀ b, jiH (w.heap.size + 1 + 1 + 1) w2 b -> b = w.heap.size + 1 + 1 + 1 := by
  rintro b (e | ⟨a, l, c, h1, h2⟩)
  ·exact e
  ·rw [bx5.cell] at h1; cases h1
 have hval : ValB (w.heap.size + 1 + 1 + 1) w2 := ⟨⟨_, bx5, rfl⟩, fun b hb => by have := hown b hb; have := hk.size; omega⟩
 have hplus : Sub C (jbq C W0 w2) := fun ad u hc => by
  unfold jbq;rw [if_pos (jar W0 ad (hsub0 ad u hc))];exact hc
 have hseq := jmM s hs (5 - 1) (w.heap.size + 1 + 1 + 1) us w2 (jbq C W0 w2) hval (jei hsub0 (Y := []) (fun b hb => by simp at hb) hk) ((hg0.keep hk (by simp)).mono hplus) (fun ad u hc ho => by
  have e := hown _ ho
  unfold jbq at hc;rw [if_pos (by omega)] at hc
  have := jar w ad (hsub ad u hc)
  omega) hus
 refine wpIn_rangeFunc_ownH rfl (by decide) (gf := 74) (lb := us) rfl trivial (enters_of Tryz.func74 (by kernel_rfl) rfl) hseq (fun h k => h.trans k) (fun W l o o' _ h1 h2 h3 => KpB.put W l o o' h1 (jsR h2 h3)) (Below.refl _ _) (fun _ => rfl)
  (jAY w) (jB5 w) (jjz w _ hB2.size) (fun c => jt5 w _ hB2.size c) ⟨by simp, bx2, bx3, bx4, ⟨_, bx5, World.ownsRow_nil _ _ _ _⟩, hB2⟩ (jzF s us w) (fun x a' => jsB s us w x a' _) ?assign ?body ?done ?stop
 case assign =>
  rintro l pre ⟨tk, xp0, xe0⟩ W K hI hK;simp only [jvX, jx1];simp only [jzF, jAc] at hK;generalize clP xp0 = xp at *;generalize clE xe0 = xe at *
  gi_wp2
  refine hK _ _ (((KeepsOthers.alloc W _).trans (KeepsOthers.alloc _ _)).from _) (KpB.keeps ((Keeps.alloc W _).trans (Keeps.alloc _ _))) ((jjz w _ (Nat.le_refl _)).alloc _ ((jjz w _ (Nat.le_refl _)).alloc _ hI)) ⟨_, _, rfl, ?_, ?_⟩
  ·exact (Below.heap_alloc _ _ _ (by simp)).trans (World.alloc_heap_new W _)
  ·have := World.alloc_heap_new (W.alloc (.cells (tkV tk).toArray 54)) (.cells #[.int .i64 xp, .int .i64 xe] 89)
   rw [World.size_alloc] at this;exact this
 case body =>
  rintro l pre ⟨tk, xp0, xe0⟩ a' W hBl hrec ⟨hpre, c2, c3, c4, ⟨y, c5, hrow⟩, hB⟩ ⟨b6, b7, rfl, hb6, hb7⟩ hlt
  have hcy := c5.cell
  simp only [jAc, jx1, tkV] at hb6 hb7 ⊢
  have hxpr := jr8 xp0
  have hxer := jrK xe0
  obtain ⟨xp, hxp⟩ : ∃ xp, xp = clP xp0 := ⟨_, rfl⟩
  obtain ⟨xe, hxe0⟩ : ∃ xe, xe = clE xe0 := ⟨_, rfl⟩
  rw [<- hxp] at hb7 hxpr ⊢;rw [<- hxe0] at hb7 hxer ⊢
  have d70 : W.cell? ⟨b7, 0, none⟩ = some (.int .i64 xp) := by simp [World.cell?, hb7]
  have d71 : W.cell? ⟨b7, 1, none⟩ = some (.int .i64 xe) := by simp [World.cell?, hb7]
  have d60 : W.cell? ⟨b6, 0, none⟩ = some (.int .i64 tk.kind) := by simp [World.cell?, hb6]
  have d61 : W.cell? ⟨b6, 1, none⟩ = some (.int .i64 tk.pos) := by simp [World.cell?, hb6]
  have d62 : W.cell? ⟨b6, 2, none⟩ = some (.string tk.text) := by simp [World.cell?, hb6]
  have d63 : W.cell? ⟨b6, 3, none⟩ = some (.int .i64 tk.n) := by simp [World.cell?, hb6]
  have hmL : pre.length + 1 <= maxLen := by unfold maxLen; omega
  have hrow' := hrow.alloc (.cells #[.int .i64 tk.kind, .int .i64 tk.pos, .string tk.text, .int .i64 tk.n] 54)
  have hBs := hB.size
  by_cases hxe : xe = 0
  ·rw [hxe] at hxe0 hb7 d71 ⊢
   gi_wp2_with (gi_at_builtin; refine jcA _ rfl _ _ 50 rfl w.heap.size 54 i0 _ 4 40 Tryz.underlying50 hi hz0 hz1 hz2 rfl (by decide) y pre.length (jmX (pre.map It.tok)) rfl hrow' ⟨W.heap.size, 0, none⟩ 1 1 (tkV tk) rfl rfl (jiK _ _ _ _ _ _) (by simp [Value.oneCell', tkV]) hmL (by omega) (by simp; omega) ?_; intro v' w1 hown' hgrow hwhere; obtain ⟨g', cap', rfl⟩ := ownsRow_succ hown'; obtain ⟨hv1, hv2, hr2, hk2, hb2⟩ := c5.appended (by decide) hrow hB.size (by omega) hown' hgrow; have hc1 := hv1.cell; have hf1 := hv1.frozen)
   have keep : ∀ {b T v}, Boxed W b T v -> T ≠ 54 -> b ≠ w.heap.size + 1 + 1 + 1 -> Boxed (w1.setCell ⟨w.heap.size + 1 + 1 + 1, 0, none⟩ (.slice (some ⟨g', 0, none⟩) (pre.length + 1) cap')) b T v := fun h hT hb =>
    ((h.alloc _).kept hgrow (h.not_row hT hrow)).kept (grownBy_setCell' _ _ _) (fun e => hb (by cases e; rfl))
   refine ⟨hk2.from _, jpU c5 hrow hgrow hwhere hv2 hr2, fun x hx => ?_, keep c2 (by decide) (by omega), keep c3 (by decide) (by omega), keep c4 (by decide) (by omega), ⟨_, hv2, ?_⟩, hB.trans hb2⟩
   ·rcases List.mem_append.1 hx with hx | hx
    ·exact hpre x hx
    ·obtain rfl : x = ⟨tk, xp0, xe0⟩ := by simpa using hx
     exact hxe0.symm
   ·have : jmX ((pre ++ [(⟨tk, xp0, xe0⟩ : It)]).map It.tok) = jmX (pre.map It.tok) ++ tkV tk := by simp [jmX]
    rw [this, List.length_append];exact hr2
  ·gi_wp2
   rename_i K1 hK1 hb1 K2 hK2
   have hc : (Cx.mk Tryz.prog tab jxG (fun _ => [0, 1, 2]) 3 (fun _ _ => False)).okN := juE jxG (fun _ => [0, 1, 2]) 3
   obtain ⟨C0, hC0⟩ : ∃ C0 : Rd, C0 = fun ad => if ad.block = b7 then see W ad else C ad := ⟨_, rfl⟩
   have hsubW : Sub C (see W) := fun ad u h => (jcS (w := w) (hB.block _ (jar w ad (hsub ad u h)))).trans (hsub ad u h)
   have hgW : Gok C W := hg.keep (Keeps.of_ext hB) (by simp)
   have hs0 : Sub C0 (see W) := fun ad u h => by
    rw [hC0] at h
    simp only at h
    split at h
    ·exact h
    ·exact hsubW ad u h
   have hC : Sub C C0 := fun ad u h => by
    rw [hC0]
    simp only
    split
    ·exact hsubW ad u h
    ·exact h
   have hne : ∀ {b T v}, Boxed W b T v -> T ≠ 89 -> b ≠ b7 := fun h hT e => by
    rw [e] at h
    have := h.symm.trans hb7
    simp only [Option.some.injEq, Obj.cells.injEq] at this;exact hT this.2.1
   have hnone : ∀ b, b ≠ b7 -> w.heap.size <= b -> ∀ o sp, C0 ⟨b, o, sp⟩ = none := fun b hb hw o sp => by
    rw [hC0];simp only [if_neg hb]
    cases h : C ⟨b, o, sp⟩ with
    | none => rfl
    | some u =>
     have : b < w.heap.size := jar w _ (hsub _ u h)
     omega
   have hpp : (A.pp [.v (.int .i64 xp), .v (.int .i64 xe)]).rep ⟨C0, [w.heap.size, w.heap.size + 1, w.heap.size + 1 + 1], []⟩ (.pointer (some ⟨b7, 0, none⟩)) := by
    unfold A.rep;refine ⟨b7, 0, rfl, ⟨.int .i64 xp, ?_, rfl, A.rep_v (okV_int.2 (jaL (by omega)))⟩, ⟨.int .i64 xe, ?_, rfl, A.rep_v (okV_int.2 (jaL (by omega)))⟩, trivial⟩
    ·rw [hC0]; exact (if_pos rfl).trans d70
    ·rw [hC0]; exact (if_pos rfl).trans d71
   have hinv := fun (a : Act) ht hd => jzi (a := a) (C0 := C0) (W := W) (β := [w.heap.size, w.heap.size + 1, w.heap.size + 1 + 1]) (bx := [[.v (.slice none 0 0)], [.v (.int .i64 0)], [.v (.int .i64 0)]]) (t := [.dead, .dead, .box 0 0, .box 1 0, .box 2 0, .dead, .dead, .pp [.v (.int .i64 xp), .v (.int .i64 xe)], .dead, .dead, .dead, .dead, .dead, .dead, .dead, .dead, .dead, .dead, .dead, .dead, .dead, .dead, .dead, .dead, .dead, .dead, .dead, .dead, .dead]) (hgW.mono hC) hs0 (by simp; omega) (fun b hb => by
     simp only [List.mem_cons, List.not_mem_nil, or_false] at hb
     rcases hb with rfl | rfl | rfl
     ·exact hnone _ (hne c2 (by decide)) (by omega)
     ·exact hnone _ (hne c3 (by decide)) (by omega)
     ·exact hnone _ (hne c4 (by decide)) (by omega)) rfl (fun i b cs h1 h2 => by
     match i, h1, h2 with
     | 0, h1, h2 => cases h1; cases h2; exact jn0 c2 trivial
     | 1, h1, h2 => cases h1; cases h2; exact jn0 c3 (okV_int.2 (jaL (by omega)))
     | 2, h1, h2 => cases h1; cases h2; exact jn0 c4 (okV_int.2 (jaL (by omega)))
     | n + 3, h1, h2 => simp at h1) ht hd
   refine jq2 hc (hinv _ ?_ ?_) rfl rfl (by kernel_rfl) rfl ?_
   ·exact ⟨_, _, rfl, A.rep_dead _ _, _, _, rfl, A.rep_dead _ _, _, _, rfl, (by unfold A.rep; exact ⟨_, rfl, rfl⟩), _, _, rfl, (by unfold A.rep; exact ⟨_, rfl, rfl⟩), _, _, rfl, (by unfold A.rep; exact ⟨_, rfl, rfl⟩), _, _, rfl, A.rep_dead _ _, _, _, rfl, A.rep_dead _ _, _, _, rfl, hpp, _, _, rfl, A.rep_dead _ _, _, _, rfl, A.rep_dead _ _, _, _, rfl, A.rep_dead _ _, _, _, rfl, A.rep_dead _ _, _, _, rfl, A.rep_dead _ _, _, _, rfl, A.rep_dead _ _, _, _, rfl, A.rep_dead _ _, _, _, rfl, A.rep_dead _ _, _, _, rfl, A.rep_dead _ _, _, _, rfl, A.rep_dead _ _, _, _, rfl, A.rep_dead _ _, _, _, rfl, A.rep_dead _ _, _, _, rfl, A.rep_dead _ _, _, _, rfl, A.rep_dead _ _, _, _, rfl, A.rep_dead _ _, _, _, rfl, A.rep_dead _ _, _, _, rfl, A.rep_dead _ _, _, _, rfl, A.rep_dead _ _, _, _, rfl, A.rep_dead _ _, _, _, rfl, A.rep_dead _ _, _, _, rfl, A.rep_dead _ _, rfl⟩
   ·rfl
   conv => whnf
   refine ⟨rfl, fun a9 w9 hi9 => hK2 _ _ (wpIn_ret ?_)⟩
   have h90 := jjk hi9 (i := 0) rfl rfl
   have h91 := jjk hi9 (i := 1) rfl rfl
   have h92 := jjk hi9 (i := 2) rfl rfl
   have hk9 : Keeps [w.heap.size, w.heap.size + 1, w.heap.size + 1 + 1] W w9 := by obtain ⟨E, hp, _, _⟩ := hi9; exact hp.keep
   refine ⟨⟨hk9.size, fun b o hb h1 h2 => (hk9.block b (jcB h1) fun hm => ?_).trans h1⟩, rfl, pre, _, rfl, by rw [<- hxe0]; exact hxe, h90, by rw [<- hxp]; exact h91, by rw [<- hxe0]; exact h92, hB.trans ⟨hk9.os, hk9.tape, hk9.output, hk9.size, fun b hb => hk9.block b (by omega) fun hm => ?_⟩⟩
   ·have hnc : ∀ {T v}, Boxed W b T v -> False := fun h => by
     have := h.symm.trans h1
     cases this
     cases h2
    simp only [List.mem_cons, List.not_mem_nil, or_false] at hm
    rcases hm with rfl | rfl | rfl
    ·exact hnc c2
    ·exact hnc c3
    ·exact hnc c4
   ·simp only [List.mem_cons, List.not_mem_nil, or_false] at hm;omega
 case done =>
  rintro D ys W hD hS ⟨hpre, c2, c3, c4, ⟨y, c5, hrow⟩, hB⟩ hK
  have hcy := c5.cell
  have hc2 := c2.cell
  have hc3 := c3.cell
  have hc4 := c4.cell
  have hf2 := c2.frozen
  have hf3 := c3.frozen
  have hf4 := c4.frozen
  have hrow' := hrow.alloc (.cells #[.int .i64 0, .int .i64 s.size, .string ⟨#[]⟩, .int .i64 0] 54)
  have hBs := hB.size
  obtain ⟨herr, hys⟩ := jxB hS hpre
  have hyl : ys.length <= s.size := by
   rw [hys, List.length_map]
   have := (jdP (s.data.toList.length + 1) 0 s.data.toList).1
   have hsl := jbv s
   exact Nat.le_trans this (by omega)
  have hmL : ys.length + 1 <= maxLen := by unfold maxLen; omega
  clear hcy hc2 hc3 hc4 hf2 hf3 hf4
  have hcy := c5.cell
  gi_wp2_with (gi_at_builtin; refine jcA _ rfl _ _ 50 rfl w.heap.size 54 i0 _ 4 40 Tryz.underlying50 hi hz0 hz1 hz2 rfl (by decide) y ys.length (jmX (ys.map It.tok)) rfl hrow' ⟨W.heap.size, 0, none⟩ 1 1 (tkV (jf1 s)) rfl rfl (jiK _ _ _ _ _ _) (by simp [Value.oneCell', tkV]) hmL (by omega) (by simp; omega) ?_; intro v' w1 hown' hgrow hwhere; obtain ⟨g', cap', rfl⟩ := ownsRow_succ hown'; have k2 := (c2.alloc _).kept hgrow (c2.not_row (by decide) hrow); have k3 := (c3.alloc _).kept hgrow (c3.not_row (by decide) hrow); have k4 := (c4.alloc _).kept hgrow (c4.not_row (by decide) hrow); have hc2 := k2.cell; have hc3 := k3.cell; have hc4 := k4.cell; have hf2 := k2.frozen; have hf3 := k3.frozen; have hf4 := k4.frozen)
  have n25 : w.heap.size ≠ w.heap.size + 1 := by omega
  have hkD : w1.heap[D]? = some (.deferred (some [])) := by
   refine (hgrow.block D ?_ fun e => ?_).trans ((Below.heap_alloc _ _ _ (jcB hK)).trans hK)
   ·have := jcB hK
    rw [World.size_alloc];omega
   ·rcases hrow.2 with ⟨rfl, _⟩ | ⟨g, cap, cur, rfl, _, hgb, _⟩
    ·simp [Value.ownBlock] at e
    ·obtain rfl : D = g := by simpa [Value.ownBlock] using e
     rw [hK] at hgb
     cases hgb
  have hB1 : Below w.heap.size W w1 := by
   refine ((Below.refl w.heap.size W).alloc hBs _).grown hgrow (by simp; omega) fun j ej => ?_
   rcases hrow.2 with ⟨rfl, _⟩ | ⟨g, cap, cur, rfl, hb, _, _⟩
   ·simp [Value.ownBlock] at ej
   ·obtain rfl : g = j := by simpa [Value.ownBlock] using ej
    exact hb
  have e1 : w.heap.size ≠ w.heap.size + 1 := by omega
  have e2 : w.heap.size ≠ w.heap.size + 1 + 1 := by omega
  have e3 : w.heap.size + 1 ≠ w.heap.size + 1 + 1 := by omega
  have hyn : ys.length = (jb4 s).toks.length := by rw [hys, List.length_map]
  rw [hyn] at hown';generalize hv' : Value.slice (some ⟨g', 0, none⟩) ((jb4 s).toks.length + 1) cap' = v' at *
  have o1 := hown'.kept (grownBy_setCell' w1 w.heap.size v') (.inr (k2.not_row (by decide) hown').symm)
  have k3a := k3.other e1.symm v'
  have o2 := o1.kept (grownBy_setCell' _ (w.heap.size + 1) (.int .i64 0)) (.inr (k3a.not_row (by decide) o1).symm)
  have k4b := (k4.other e2.symm v').other e3.symm (.int .i64 0)
  have o3 := o2.kept (grownBy_setCell' _ (w.heap.size + 1 + 1) (.int .i64 0)) (.inr (k4b.not_row (by decide) o2).symm)
  have x2 := ((k2.set v').other e1 (.int .i64 0)).other e2 (.int .i64 0)
  have x3 := (k3a.set (.int .i64 0)).other e3 (.int .i64 0)
  have x4 := k4b.set (.int .i64 0)
  have hB3 := ((hB1.setCell (p := ⟨w.heap.size, 0, none⟩) (Nat.le_refl _) v').setCell (p := ⟨w.heap.size + 1, 0, none⟩) (by simp) (.int .i64 0)).setCell (p := ⟨w.heap.size + 1 + 1, 0, none⟩) (by simp; omega) (.int .i64 0)
  have hDl : w.heap.size + 1 + 1 + 1 < D := by have := hk.size; omega
  have hD3 := (Below.heap_setCell _ ⟨w.heap.size + 1 + 1, 0, none⟩ (.int .i64 0) D (by simp; omega)).trans ((Below.heap_setCell _ ⟨w.heap.size + 1, 0, none⟩ (.int .i64 0) D (by simp; omega)).trans ((Below.heap_setCell _ ⟨w.heap.size, 0, none⟩ v' D (by simp; omega)).trans hkD))
  generalize ((w1.setCell ⟨w.heap.size, 0, none⟩ v').setCell ⟨w.heap.size + 1, 0, none⟩ (.int .i64 0)).setCell ⟨w.heap.size + 1 + 1, 0, none⟩ (.int .i64 0) = W3 at *;refine ⟨by simp, .inl ⟨_, _, rfl, run_takeDeferred hD3, ?_⟩⟩
  have hg3 := grownBy_putObj' W3 D (.deferred none)
  have hr3 : ∀ r, some D = some r -> ∃ o : Obj, W3.heap[r]? = some o /\ o.isCells = false := fun r e => by cases e; exact ⟨_, hD3, rfl⟩
  have y2 := cell_kept x2.cell hg3 hr3
  have y3 := cell_kept x3.cell hg3 hr3
  have y4 := cell_kept x4.cell hg3 hr3
  have o4 := ownsRow_putObj o3 (.deferred none) hD3 rfl
  have hB4 := (hB.trans hB3).trans (belowK_b (w := w) (Nat.le_refl _) W3 D _ (.deferred none) (by omega) hD3 rfl rfl)
  generalize W3.putObj D (.deferred none) = W4 at *;refine ⟨.tuple #[v', .int .i64 0, .int .i64 0], jnx jlJ rfl rfl rfl rfl rfl rfl rfl rfl rfl rfl y2 y3 y4, _, rfl, hB4, ?_⟩
  have hxs0 : ys.map It.tok = (jb4 s).toks := by rw [hys, List.map_map]; exact List.map_id'' (fun _ => rfl) _
  refine jq6 ?_ ⟨⟨v', by unfold jzo; rw [herr], by rw [jda herr, List.length_append, List.length_singleton]; rw [hxs0] at o4; rw [show jmX ((jb4 s).toks ++ [jf1 s]) = jmX (jb4 s).toks ++ tkV (jf1 s) by simp [jmX]]; exact o4⟩⟩
  have hlx : jwU s = .tup [.sl 4 ((jb4 s).toks.length + 1) (jer (jb4 s).toks ++ tkL (jf1 s)), jao 0, jao 0] := by unfold jwU; rw [herr]; simp [jer]
  rw [hlx];unfold A.rep;refine ⟨_, rfl, _, _, rfl, ?_, _, _, rfl, A.rep_v (okV_int.2 (jaL (by omega))), _, _, rfl, A.rep_v (okV_int.2 (jaL (by omega))), rfl⟩
  have hxs : ys.map It.tok = (jb4 s).toks := by rw [hys, List.map_map]; exact List.map_id'' (fun _ => rfl) _
  have hsl := jbv s
  have htl : ∀ l : List Tk, (jer l).length = l.length * 4 := fun l => by
   induction l with
   | nil => rfl
   | cons t l ih => rw [show jer (t :: l) = tkL t ++ jer l from rfl, List.length_append, ih, List.length_cons]; simp only [tkL, List.length_cons, List.length_nil]; omega
  rw [hxs] at o4
  rcases o4.2 with ⟨h, _⟩ | ⟨g, cap, cur, hv4, hbg, hgb, hnc, hcm, hcs, htk⟩
  ·rw [<- hv'] at h
   cases h
  ·unfold A.rep;refine ⟨by rw [List.length_append, htl]; simp only [tkL, List.length_cons, List.length_nil]; omega, by rw [hyn] at hmL; exact hmL, some ⟨g, 0, none⟩, g, 0, cap, hv4, hnc, .inr rfl, (fun e => by simp at e), ?_⟩
   refine A.repAt_mk (A.repC_append (jqE (jh7 _ _ _ (by omega))) (jv9 (.inr ⟨rfl, by show s.size <= _; omega, rfl, rfl⟩))) fun j u hj => ?_
   show jbq C w W4 ⟨g, 0 + j, none⟩ = some u
   rw [jka hbg, Nat.zero_add];simp only [World.cell?, hgb]
   have hj2 : (jmX (jb4 s).toks ++ tkV (jf1 s))[j]? = some u := hj
   rw [<- htk, List.getElem?_take] at hj2
   split at hj2
   ·simpa using hj2
   ·cases hj2
 case stop =>
  rintro D c pre W hD hSp ⟨rfl, q, x, rfl, hx, h2, h3, h4, hB⟩ hK
  obtain ⟨herr, hxp, hxe⟩ := jth hs hSp hx
  gi_wp2
  refine ⟨by simp, .inl ⟨_, _, rfl, run_takeDeferred hK, ?_⟩⟩
  have hg3 := grownBy_putObj' W D (.deferred none)
  have hr3 : ∀ r, some D = some r -> ∃ o : Obj, W.heap[r]? = some o /\ o.isCells = false := fun r e => by cases e; exact ⟨_, hK, rfl⟩
  have g2 := cell_kept h2 hg3 hr3
  have g3 := cell_kept h3 hg3 hr3
  have g4 := cell_kept h4 hg3 hr3
  refine ⟨.tuple #[.slice none 0 0, .int .i64 (clP x.pos : Nat), .int .i64 (clE x.err)], ?_, _, rfl, hB.trans (belowK_b (w := w) (Nat.le_refl _) W D _ _ (by have := hB2.size; omega) hK rfl rfl), ?_⟩
  ·exact jnx jlJ rfl rfl rfl rfl rfl rfl rfl rfl rfl rfl g2 g3 g4
  ·refine jq6 ?_ ⟨⟨.slice none 0 0, by unfold jzo; rw [herr, hxp, hxe], by rw [jqD herr]; exact World.ownsRow_nil _ _ _ _⟩⟩
   have hlx : jwU s = .tup [.v (.slice none 0 0), jao x.pos, jao x.err] := by unfold jwU; rw [herr]
   have hr1 := jr8 x.pos
   have hr2 := jrK x.err
   rw [hlx, hxp, hxe];rw [hxp] at hr1;rw [hxe] at hr2;unfold A.rep;exact ⟨_, rfl, _, _, rfl, A.rep_v trivial, _, _, rfl, A.rep_v (okV_int.2 (jaL (by omega))), _, _, rfl, A.rep_v (okV_int.2 (jaL (by omega))), rfl⟩
theorem jms (s : ByteArray) (hs : s.size <= 1000000000) : Spec Tryz.prog 30 [] [.v (.string s)] fun _ r => r = jwU s := by
 refine jgU (jeP Tryz.func30 rfl (by kernel_rfl)) fun w C vals hg hsub hv => ?_
 obtain ⟨u, us, rfl, h1, h2⟩ := hv
 have e1 := (A.rep_v_iff.1 h1).1
 obtain rfl : us = [] := h2
 subst e1;refine (callsIn_wide.1 (js2 s hs w C hg hsub)).mono ?_;rintro e w' ⟨v, rfl, hB, hr, _⟩;exact ⟨v, rfl, hB, hr⟩
section
mutual
inductive Wk : A -> A -> Prop
 | refl (a : A) : Wk a a
 | nil (k : Nat) : Wk (.v (.slice none 0 0)) (.sl k 0 [])
 | dead (a : A) : Wk a .dead
 | sl (k n : Nat) {cs ds : List A} (h : WkL cs ds) : Wk (.sl k n cs) (.sl k n ds)
 | pp {cs ds : List A} (h : WkL cs ds) : Wk (.pp cs) (.pp ds)
 | agg {cs ds : List A} (h : WkL cs ds) : Wk (.agg cs) (.agg ds)
 | tup {cs ds : List A} (h : WkL cs ds) : Wk (.tup cs) (.tup ds)
inductive WkL : List A -> List A -> Prop
 | nil : WkL [] []
 | cons {a b : A} {xs ys : List A} (h : Wk a b) (k : WkL xs ys) : WkL (a :: xs) (b :: ys)
end
theorem WkL.refl : ∀ l : List A, WkL l l
 | [] => .nil
 | a :: l => .cons (.refl a) (WkL.refl l)
theorem WkL.app {a b c d : List A} (h : WkL a b) (k : WkL c d) : WkL (a ++ c) (b ++ d) := by
 induction a generalizing b with
 | nil => cases h; exact k
 | cons x a ih => cases h with | cons h1 h2 => exact .cons h1 (ih h2)
theorem WkL.length {a b : List A} (h : WkL a b) : a.length = b.length := by
 induction a generalizing b with
 | nil => cases h; rfl
 | cons x a ih => cases h with | cons h1 h2 => simp [ih h2]
mutual
theorem jsb : ∀ {a b : A} {E : Env} {y : Value}, Wk a b -> a.rep E y -> b.rep E y
 | _, _, _, _, .refl _, k => k
 | _, _, _, _, .nil _, k => jye k
 | _, _, _, _, .dead _, _ => A.rep_dead _ _
 | _, _, _, _, .sl k n h, r => by
  unfold A.rep at r ⊢
  obtain ⟨h1, h2, p, b, off, cap, h3, h4, h6, h7, h8⟩ := r
  exact ⟨by rw [<- h.length]; exact h1, h2, p, b, off, cap, h3, h4, h6, h7, jq3 h h8⟩
 | _, _, _, _, .pp h, r => by
  unfold A.rep at r ⊢
  obtain ⟨b, off, h1, h2⟩ := r
  exact ⟨b, off, h1, jq3 h h2⟩
 | _, _, _, _, .agg h, r => by
  unfold A.rep at r ⊢
  obtain ⟨us, h1, h2⟩ := r
  exact ⟨us, h1, A.repC_mk (jjW h (A.repC_L h2)) (A.repC_one h2)⟩
 | _, _, _, _, .tup h, r => by
  unfold A.rep at r ⊢
  obtain ⟨us, h1, h2⟩ := r
  exact ⟨us, h1, jjW h h2⟩
theorem jjW : ∀ {a b : List A} {E : Env} {us : List Value}, WkL a b -> A.repL a E us -> A.repL b E us
 | _, _, _, _, .nil, k => k
 | _, _, _, _, .cons h k, r => by
  unfold A.repL at r ⊢
  obtain ⟨u, us', h1, h2, h3⟩ := r
  exact ⟨u, us', h1, jsb h h2, jjW k h3⟩
theorem jq3 : ∀ {a b : List A} {E : Env} {bl off : Nat}, WkL a b -> A.repAt a E bl off -> A.repAt b E bl off
 | _, _, _, _, _, .nil, _ => by unfold A.repAt; trivial
 | _, _, _, _, _, .cons h k, r => by
  unfold A.repAt at r ⊢
  obtain ⟨⟨u, h1, h2, h3⟩, h4⟩ := r
  exact ⟨⟨u, h1, h2, jsb h h3⟩, jq3 k h4⟩
end
theorem jva {a : A} {t : Nat} (h : Wk a (.adr t)) : a = .adr t := by cases h; rfl
theorem jtK {l : List A} {t : Nat} {r : List A} (h : WkL l (.adr t :: r)) : ∃ r', l = .adr t :: r' := by
 cases h with
 | cons h1 h2 => exact ⟨_, by rw [jva h1]⟩
theorem jw2 {l m : List A} (h : WkL l m) : WkL (unH l) (unH m) := by
 cases h with
 | nil => exact .nil
 | @cons a b xs ys h k =>
  by_cases ha : ∃ t, a = .adr t
  ·obtain ⟨t, rfl⟩ := ha
   cases h <;> exact .cons (.refl _) k
  ·have hb : ∀ t, b ≠ .adr t := fun t e => by subst e; exact ha ⟨t, jva h⟩
   rw [jc1 fun t r e => ha ⟨t, by injection e⟩, jc1 fun t r e => hb t (by injection e)];exact .cons h k
inductive WkB : List (List A) -> List (List A) -> Prop
 | nil : WkB [] []
 | cons {a b : List A} {xs ys : List (List A)} (h : WkL a b) (k : WkB xs ys) : WkB (a :: xs) (b :: ys)
theorem WkB.refl : ∀ l : List (List A), WkB l l
 | [] => .nil
 | a :: l => .cons (.refl a) (WkB.refl l)
theorem WkB.get {a b : List (List A)} (h : WkB a b) {i : Nat} {c : List A} (hc : b[i]? = some c) : ∃ c0, a[i]? = some c0 /\ WkL c0 c := by
 induction a generalizing b i with
 | nil => cases h; simp at hc
 | cons x a ih =>
  cases h with
  | cons h1 h2 =>
   cases i with
   | zero => simp at hc; subst hc; exact ⟨x, rfl, h1⟩
   | succ i => simpa using ih h2 (by simpa using hc)
theorem WkB.length {a b : List (List A)} (h : WkB a b) : a.length = b.length := by
 induction a generalizing b with
 | nil => cases h; rfl
 | cons x a ih => cases h with | cons h1 h2 => simp [ih h2]
section
variable {P : Program} {f : Nat} {ins ins' : List (List A)} {args args' : List A} {post post' : List (List A) -> A -> Prop} {pn pn' : List PanicEntry -> Prop}
theorem SpecP.weaken (h : SpecP P f ins args post pn) (hp : ∀ o r, post o r -> ∃ o' r', post' o' r' /\ WkB o o' /\ Wk r r') (hn : ∀ ch, pn ch -> pn' ch) : SpecP P f ins args post' pn' :=
 ⟨h.1, fun w C β vals h0 h1 h2 h3 h4 h5 h6 => (h.2 w C β vals h0 h1 h2 h3 h4 h5 h6).mono fun e w' hh => by
  rcases hh with ⟨outs, r, v, k1, k2, k3, k4, k5, k6⟩ | ⟨ch, ns, k1, k2, k3⟩
  ·obtain ⟨o', r', g1, g2, g3⟩ := hp _ _ k2
   refine .inl ⟨o', r', v, k1, g1, k3, by rw [<- g2.length]; exact k4, fun i b cs q1 q2 => ?_, jsb g3 k6⟩
   obtain ⟨c0, q3, q4⟩ := g2.get q2
   obtain ⟨T, arr, q5, q6⟩ := k5 i b c0 q1 q3
   exact ⟨T, arr, q5, q6.rel WkL q4 (fun l m us e k => jjW e k) (fun l m e => jw2 e) fun l t r e => jtK e⟩
  ·exact .inr ⟨ch, ns, k1, hn _ k2, k3⟩⟩
theorem Spec.weaken (h : Spec P f ins args post) (hp : ∀ o r, post o r -> ∃ o' r', post' o' r' /\ WkB o o' /\ Wk r r') : Spec P f ins args post' :=
 (h.toP.weaken hp (pn' := fun _ => False) fun _ h => h).toS
end
end
end Go.Proofs.YtmodkpibkkpcdaaGreatDoor.Vm
namespace Go.Proofs.YtmodkpibkkpcdaaGreatDoor.Vm
open Go.RowKit Go.Shelf
set_option linter.unusedSimpArgs false
set_option linter.unusedVariables false
set_option maxRecDepth 100000
inductive Fm where
 | mk (k a b n : Int) (kids : List Fm)
def Fm.k : Fm -> Int | .mk k _ _ _ _ => k
def Fm.a : Fm -> Int | .mk _ a _ _ _ => a
def Fm.b : Fm -> Int | .mk _ _ b _ _ => b
def Fm.n : Fm -> Int | .mk _ _ _ n _ => n
def Fm.kids : Fm -> List Fm | .mk _ _ _ _ l => l
inductive Ps where
 | ok (f : Fm) (r : List Tk)
 | bad (p e : Int)
def tk0 : Tk := ⟨0, 0, ⟨#[]⟩, 0⟩
def hd (ts : List Tk) : Tk := ts.headD tk0
def isT (s : ByteArray) (ts : List Tk) : Bool := decide ((hd ts).text = s) && ((!decide ((hd ts).kind = 2)) && (!decide ((hd ts).kind = 0)))
theorem jwd (l : List Tk) : (jer l).length = l.length * 4 := by
 induction l with
 | nil => rfl
 | cons t l ih => rw [show jer (t :: l) = tkL t ++ jer l from rfl, List.length_append, ih, List.length_cons]; simp only [tkL, List.length_cons, List.length_nil]; omega
theorem jdI {ts : List Tk} (h : 0 < ts.length) : jae 4 (Int.toNat 0) (jer ts) = tkL (hd ts) := by
 cases ts with
 | nil => simp at h
 | cons t r => exact jdg tkL (fun _ => rfl) (t :: r) 0 (by simp)
theorem jtW {ts : List Tk} (h : 0 < ts.length) : ((jer ts).drop 4).take ((ts.length - 1) * 4) = jer ts.tail := by
 cases ts with
 | nil => simp at h
 | cons t r =>
  show (jer r).take ((r.length + 1 - 1) * 4) = jer r
  refine List.take_of_length_le ?_;rw [jwd]; simp
inductive Nt where
 | mk (k n : Int) (s : ByteArray) (kids : List Nt)
def Nt.k : Nt -> Int | .mk k _ _ _ => k
def Nt.n : Nt -> Int | .mk _ n _ _ => n
def Nt.s : Nt -> ByteArray | .mk _ _ s _ => s
def Nt.kids : Nt -> List Nt | .mk _ _ _ l => l
mutual
def nt0 : Nt -> List A
 | .mk k n s l => [jao k, jao n, jaS s, .sl 4 l.length (jy0 l)]
def jy0 : List Nt -> List A
 | [] => []
 | f :: l => nt0 f ++ jy0 l
end
@[irreducible] def jaR (l : List Nt) : List A := jy0 l
def ntA (f : Nt) : List A := [jao f.k, jao f.n, jaS f.s, .sl 4 f.kids.length (jaR f.kids)]
theorem jyH (f : Nt) : nt0 f = ntA f := by
 cases f with
 | mk k n s l => unfold nt0 ntA jaR; rfl
theorem jbw : jaR [] = [] := by unfold jaR jy0; rfl
theorem jaE (f : Nt) (l : List Nt) : jaR (f :: l) = ntA f ++ jaR l := by
 unfold jaR;rw [<- jyH]
 conv => lhs; unfold jy0
theorem jt4 (l m : List Nt) : jaR (l ++ m) = jaR l ++ jaR m := by
 induction l with
 | nil => rw [List.nil_append, jbw, List.nil_append]
 | cons f l ih => rw [List.cons_append, jaE, jaE, ih, List.append_assoc]
theorem jpZ (l : List Nt) : jaR l = l.flatMap ntA := by
 induction l with
 | nil => rw [jbw]; rfl
 | cons f l ih => rw [jaE, ih, List.flatMap_cons]
theorem jhN (l : List Nt) (f : Nt) : jaR (l ++ [f]) = jaR l ++ ntA f := by rw [jt4, jaE, jbw, List.append_nil]
theorem jbr (l : List Nt) (i : Nat) (hi : i < l.length) : jae 4 i (jaR l) = ntA l[i] := by rw [jpZ]; exact jdg ntA (fun _ => rfl) l i hi
theorem jnS (l : List Nt) : (jaR l).length = l.length * 4 := by
 induction l with
 | nil => rw [jbw]; rfl
 | cons f l ih => rw [jaE, List.length_append, ih, List.length_cons]; simp only [ntA, List.length_cons, List.length_nil]; omega
def pLp : ByteArray := ⟨#[40]⟩
def pRp : ByteArray := ⟨#[41]⟩
def pLb : ByteArray := ⟨#[123]⟩
def pRb : ByteArray := ⟨#[125]⟩
def pSemi : ByteArray := ⟨#[59]⟩
def pComma : ByteArray := ⟨#[44]⟩
def pEq : ByteArray := ⟨#[61]⟩
def pNot : ByteArray := ⟨#[33]⟩
def pMinus : ByteArray := ⟨#[45]⟩
def jcH : ByteArray := ⟨#[43]⟩
def jbG : ByteArray := ⟨#[42]⟩
def jaM : ByteArray := ⟨#[47]⟩
def jep : ByteArray := ⟨#[38, 38]⟩
def pOr : ByteArray := ⟨#[124, 124]⟩
def pLt : ByteArray := ⟨#[60]⟩
def pLe : ByteArray := ⟨#[60, 61]⟩
def pGt : ByteArray := ⟨#[62]⟩
def pGe : ByteArray := ⟨#[62, 61]⟩
def jBf : ByteArray := ⟨#[61, 61]⟩
def pNe : ByteArray := ⟨#[33, 61]⟩
def wDurable : ByteArray := ⟨#[100, 117, 114, 97, 98, 108, 101]⟩
def wVolatile : ByteArray := ⟨#[118, 111, 108, 97, 116, 105, 108, 101]⟩
def wOn : ByteArray := ⟨#[111, 110]⟩
def wStart : ByteArray := ⟨#[115, 116, 97, 114, 116]⟩
def wRequest : ByteArray := ⟨#[114, 101, 113, 117, 101, 115, 116]⟩
def wTimer : ByteArray := ⟨#[116, 105, 109, 101, 114]⟩
def wMessage : ByteArray := ⟨#[109, 101, 115, 115, 97, 103, 101]⟩
def wIf : ByteArray := ⟨#[105, 102]⟩
def wElse : ByteArray := ⟨#[101, 108, 115, 101]⟩
def wWhile : ByteArray := ⟨#[119, 104, 105, 108, 101]⟩
def wSend : ByteArray := ⟨#[115, 101, 110, 100]⟩
def wCancel : ByteArray := ⟨#[99, 97, 110, 99, 101, 108]⟩
def wSync : ByteArray := ⟨#[115, 121, 110, 99]⟩
def wReply : ByteArray := ⟨#[114, 101, 112, 108, 121]⟩
def wFail : ByteArray := ⟨#[102, 97, 105, 108]⟩
def wStop : ByteArray := ⟨#[115, 116, 111, 112]⟩
def jhu : ByteArray := ⟨#[116, 114, 117, 101]⟩
def jdT : ByteArray := ⟨#[102, 97, 108, 115, 101]⟩
def wDraw : ByteArray := ⟨#[100, 114, 97, 119]⟩
def keyL : List ByteArray := [wDurable, wVolatile, wOn, wStart, wRequest, wTimer, wMessage, wIf, wElse, wWhile, wSend, wCancel, wSync, wReply, wFail, wStop, jhu, jdT, wDraw]
def builtL : List ByteArray := [⟨#[115, 101, 108, 102]⟩, ⟨#[110, 111, 100, 101, 115]⟩, ⟨#[110, 111, 119]⟩, ⟨#[102, 114, 111, 109]⟩, ⟨#[97]⟩, ⟨#[98]⟩, ⟨#[105, 100]⟩, ⟨#[111, 112]⟩, ⟨#[107, 101, 121]⟩]
def eB : ByteArray := ⟨#[]⟩
inductive Pn where
 | ok (f : Nt) (r : List Tk)
 | bad (p e : Int)
def isP (s : ByteArray) (ts : List Tk) : Bool := decide ((hd ts).text = s) && (decide ((hd ts).kind = 1) || decide ((hd ts).kind = 3))
def jfI (l : List ByteArray) (ts : List Tk) : Bool := l.any fun s => isP s ts
def jeL (ts : List Tk) : Bool := decide ((hd ts).kind = 1) && !(keyL ++ builtL).any fun s => decide ((hd ts).text = s)
def jx7 (ts : List Tk) : Bool := decide ((hd ts).kind = 1) && builtL.any fun s => decide ((hd ts).text = s)
def synE (ts : List Tk) : Pn := .bad (hd ts).pos 10
def xpt (s : ByteArray) (ts : List Tk) (k : List Tk -> Pn) : Pn := if isP s ts = true then k ts.tail else synE ts
def Pn.andThen : Pn -> (Nt -> List Tk -> Pn) -> Pn
 | .ok f r, k => k f r
 | .bad x e, _ => .bad x e
structure Pa where
 no : List Tk -> Pn
 un : List Tk -> Pn
 ex : List Tk -> Pn
 bl : List Tk -> Pn
def jfZ (low : Option Pa) (ts : List Tk) : Pn :=
 if isP pLp ts = true then match low with
  | none => .bad (hd ts).pos 2
  | some p => (p.ex ts.tail).andThen fun n r => xpt pRp r fun r' => .ok n r'
 else synE ts
def jca (low : Option Pa) (ts : List Tk) : Pn :=
 if isP pLp ts = true then jfZ low ts
 else if isP wDraw ts = true then (jfZ low ts.tail).andThen fun n r => .ok (.mk 16 0 eB [n]) r
 else if (hd ts).kind = 2 then .ok (.mk 12 (hd ts).n eB []) ts.tail
 else if isP jhu ts = true then .ok (.mk 13 1 eB []) ts.tail
 else if isP jdT ts = true then .ok (.mk 13 0 eB []) ts.tail
 else if jeL ts = true then .ok (.mk 14 0 (hd ts).text []) ts.tail
 else if jx7 ts = true then .ok (.mk 15 0 (hd ts).text []) ts.tail
 else synE ts
def jpJ (s : ByteArray) (op : Option (List Tk -> Pn)) (ts : List Tk) : Pn := match op with
 | none => .bad (hd ts).pos 2
 | some f => (f ts.tail).andThen fun n r => .ok (.mk 17 0 s [n]) r
def jfK (low : Option Pa) (ts : List Tk) : Pn := if isP pMinus ts = true then jpJ pMinus (low.map (·.un)) ts else jca low ts
def jcb (op : List Tk -> Pn) (signs : List ByteArray) : Nat -> Nt -> List Tk -> Pn
 | 0, l, ts => .ok l ts
 | n + 1, l, ts => if jfI signs ts = true then (op ts.tail).andThen fun f r => jcb op signs n (.mk 18 0 (hd ts).text [l, f]) r else .ok l ts
def jcG (op : List Tk -> Pn) (signs : List ByteArray) (ts : List Tk) : Pn := (op ts).andThen fun f r => jcb op signs r.length f r
def cmpL : List ByteArray := [pLt, pLe, pGt, pGe, jBf, pNe]
def jp3 (low : Option Pa) : List Tk -> Pn := jcG (jcG (jfK low) [jbG, jaM]) [jcH, pMinus]
def ntG (low : Option Pa) (ts : List Tk) : Pn := if isP pNot ts = true then jpJ pNot (low.map (·.no)) ts
 else (jp3 low ts).andThen fun l r => if jfI cmpL r = true then (jp3 low r.tail).andThen fun m r' => .ok (.mk 18 0 (hd r).text [l, m]) r' else .ok l r
def jnU (low : Option Pa) : List Tk -> Pn := jcG (jcG (ntG low) [jep]) [pOr]
def jgL (limit : Int) (ts : List Tk) (k : Int -> List Tk -> Pn) : Pn := if (hd ts).kind ≠ 2 then synE ts else if limit <= (hd ts).n then .bad (hd ts).pos 6 else k (hd ts).n ts.tail
def jbc (l : List Nt) : Nt := .mk 11 0 eB l
def stG (ex bl : List Tk -> Pn) (ts : List Tk) : Pn :=
 if jeL ts = true then xpt pEq ts.tail fun r => (ex r).andThen fun e r => xpt pSemi r fun r => .ok (.mk 1 0 (hd ts).text [e]) r
 else if (hd ts).kind ≠ 1 then synE ts
 else if (hd ts).text = wIf then (ex ts.tail).andThen fun c r => (bl r).andThen fun b r => if isP wElse r = true then (bl r.tail).andThen fun o r => .ok (.mk 2 0 eB [c, b, o]) r else .ok (.mk 2 0 eB [c, b, jbc []]) r
 else if (hd ts).text = wWhile then (ex ts.tail).andThen fun c r => (bl r).andThen fun b r => .ok (.mk 3 0 eB [c, b]) r
 else if (hd ts).text = wSend then (ex ts.tail).andThen fun t r => xpt pComma r fun r => jgL 30 r fun n r => xpt pComma r fun r => (ex r).andThen fun a r => xpt pComma r fun r => (ex r).andThen fun b r => xpt pSemi r fun r => .ok (.mk 4 n eB [t, a, b]) r
 else if (hd ts).text = wTimer then jgL 8 ts.tail fun n r => xpt pSemi r fun r => .ok (.mk 5 n eB []) r
 else if (hd ts).text = wCancel then jgL 8 ts.tail fun n r => xpt pSemi r fun r => .ok (.mk 6 n eB []) r
 else if (hd ts).text = wSync then xpt pSemi ts.tail fun r => .ok (.mk 7 0 eB []) r
 else if (hd ts).text = wReply then (ex ts.tail).andThen fun a r => xpt pComma r fun r => (ex r).andThen fun b r => xpt pSemi r fun r => .ok (.mk 8 0 eB [a, b]) r
 else if (hd ts).text = wFail then (ex ts.tail).andThen fun a r => xpt pSemi r fun r => .ok (.mk 9 0 eB [a]) r
 else if (hd ts).text = wStop then xpt pSemi ts.tail fun r => .ok (.mk 10 0 eB []) r
 else synE ts
def ji3 (st : List Tk -> Pn) : Nat -> List Nt -> List Tk -> Pn
 | 0, _, ts => synE ts
 | n + 1, acc, ts => if isP pRb ts = true then .ok (jbc acc) ts.tail else (st ts).andThen fun s r => ji3 st n (acc ++ [s]) r
def bkF (st : List Tk -> Pn) (ts : List Tk) : Pn := xpt pLb ts fun r => ji3 st r.length [] r
def bkN (ts : List Tk) : Pn := if isP pLb ts = true then .bad (hd ts).pos 2 else synE ts
def jx5 : Option Pa -> List Tk -> Pn
 | none => bkN
 | some p => p.bl
def paG (low : Option Pa) : Pa := ⟨ntG low, jfK low, jnU low, bkF (stG (jnU low) (jx5 low))⟩
def pa : Nat -> Pa
 | 0 => paG none
 | d + 1 => paG (some (pa d))
structure Ut where
 du : List ByteArray
 vo : List ByteArray
 on : List (Int × Nt)
inductive PU where
 | ok (u : Ut)
 | bad (p e : Int)
inductive Pd where
 | ok (names out : List ByteArray) (r : List Tk)
 | bad (p e : Int)
def jit : Nat -> List ByteArray -> List ByteArray -> List Tk -> Pd
 | 0, _, _, ts => .bad (hd ts).pos 10
 | n + 1, names, out, ts =>
  if jeL ts.tail = false then .bad (hd ts.tail).pos 10
  else if names.any (fun s => decide (s = (hd ts.tail).text)) = true then .bad (hd ts.tail).pos 4
  else if names.length = 16 then .bad (hd ts.tail).pos 2
  else if isP pComma ts.tail.tail = true then jit n (names ++ [(hd ts.tail).text]) (out ++ [(hd ts.tail).text]) ts.tail.tail
  else if isP pSemi ts.tail.tail = true then .ok (names ++ [(hd ts.tail).text]) (out ++ [(hd ts.tail).text]) ts.tail.tail.tail
  else .bad (hd ts.tail.tail).pos 10
def jwK (h : Int × Nt) : List (Int × Nt) -> List (Int × Nt)
 | [] => [h]
 | x :: l => if h.1 <= x.1 then h :: x :: l else x :: jwK h l
def jjl (l : List (Int × Nt)) : List (Int × Nt) := l.foldr jwK []
inductive Ph where
 | ok (n : Int) (r : List Tk)
 | bad (p e : Int)
def jpI (limit off : Int) (ts : List Tk) : Ph := if (hd ts).kind ≠ 2 then .bad (hd ts).pos 10 else if limit <= (hd ts).n then .bad (hd ts).pos 6 else .ok (off + (hd ts).n) ts.tail
def hnF (ts : List Tk) : Ph :=
 if isP wStart ts = true then .ok 0 ts.tail
 else if isP wRequest ts = true then .ok 1 ts.tail
 else if isP wTimer ts = true then jpI 8 2 ts.tail
 else if isP wMessage ts = true then jpI 30 10 ts.tail
 else .bad (hd ts).pos 10
def jp1 (du vo : List ByteArray) : Nat -> List (Int × Nt) -> List Tk -> PU
 | 0, _, ts => .bad (hd ts).pos 10
 | n + 1, hs, ts => if (hd ts).kind = 0 then .ok ⟨du, vo, jjl hs⟩
  else if isP wOn ts = false then .bad (hd ts).pos 10
  else match hnF ts.tail with
   | .bad x e => .bad x e
   | .ok k r => if hs.any (fun h => decide (h.1 = k)) = true then .bad (hd ts.tail).pos 4
    else match (pa 19).bl r with
     | .bad x e => .bad x e
     | .ok b r => jp1 du vo n (hs ++ [(k, b)]) r
def jlf : Nat -> List ByteArray -> List ByteArray -> List ByteArray -> List Tk -> PU
 | 0, _, _, _, ts => .bad (hd ts).pos 10
 | n + 1, names, du, vo, ts =>
  if isP wDurable ts = true then match jit ts.length names [] ts with
   | .bad x e => .bad x e
   | .ok names' out r => jlf n names' (du ++ out) vo r
  else if isP wVolatile ts = true then match jit ts.length names [] ts with
   | .bad x e => .bad x e
   | .ok names' out r => jlf n names' du (vo ++ out) r
  else jp1 du vo (ts.length + 1) [] ts
def jtw (ts : List Tk) : PU := jlf (ts.length + 1) [] [] [] ts
def jgx (s : ByteArray) : PU := if 3000 < s.size then .bad 3000 2 else match (jb4 s).err with
 | some (p, e) => .bad p e
 | none => jtw (jko s)
end Go.Proofs.YtmodkpibkkpcdaaGreatDoor.Vm
namespace Go.Proofs.YtmodkpibkkpcdaaGreatDoor.Vm
open Go.RowKit
set_option linter.unusedSimpArgs false
set_option linter.unusedVariables false
section
section
variable {H : Type} {enc : TypeId × Value -> H} {P : Program} {w : World} {base : Nat} {spare : Nat -> Bool} {held : Bool} {tn ts ti tx : TypeId} {fs : Array Field}
structure jBg (P : Program) (tn ts ti tx : TypeId) (fs : Array Field) : Prop where
 n : P.underlying tn = some (.struct fs)
 s : P.underlying ts = some (.slice tn)
 i : P.underlying ti = some (.int .i64)
 x : P.underlying tx = some .string
 f : fs.toList.map (fun f => (f.offset, f.type)) = [(0, ti), (1, ti), (2, tx), (3, ts)]
 c : P.cellsOf tn = 4 /\ P.cellsOf ti = 1 /\ P.cellsOf tx = 1 /\ P.cellsOf ts = 1
end
end
section
def jui (c : Cx) (e k g : Nat) (rv : List ResultVar) (post : List (List A) -> Nat -> List A -> A -> Prop) (s : S) : Prop :=
 jz7 c.T s rv fun r => match (ja3 s.rw (jx4 g (jjT r ++ jlX (jfq c.np s.bx))))[g]? with
  | some (.live e' k' n cs) => match Nat.beq e' e, Nat.beq k' k with
   | true, true => match jez (upto c.np) g (ja3 s.rw (jx4 g (jjT r ++ jlX (jfq c.np s.bx)))) (jfq c.np s.bx) with
    | some outs => match renG (upto c.np) g (ja3 s.rw (jx4 g (jjT r ++ jlX (jfq c.np s.bx)))) r with
     | some r' => post outs n cs r'
     | none => False
    | none => False
   | _, _ => False
  | _ => False
def jzw (c : Cx) (e k : Nat) (rv : List ResultVar) (post : List (List A) -> Nat -> List A -> A -> Prop) (x : Exit) (s : S) : Prop :=
 match x with
 | .ret => ∃ g, jui c e k g rv post s
 | .normal => ∃ g, jui c e k g rv post s
 | _ => False
section
variable {c : Cx} {s : S}
theorem jn6 {fn : Func} {post : List (List A) -> Nat -> List A -> A -> Prop} {w w' : World} {C : Rd} {β : List Nat} {s' : S} {a' : Act} {e k g : Nat} {y : Value} (hc : c.ok) (hnp : β.length = c.np) (hr : jui c e k g fn.results.toList post s') (hi : Inv [] ⟨w, (blk y).toList⟩ C β s' a' w') :
  a'.defers = [] /\ ∃ v, (results fn a'.tmps).run c.P w' = .ok v w' /\ ∃ (outs : List (List A)) (n' : Nat) (cs' : List A) (r : A) (v' y' : Value) (xs' : List Value) (C' : Rd), Ending.returned v = .returned v' /\ post outs n' cs' r /\ Keeps (β ++ (blk y).toList) w w' /\ Sub C C' /\ Sub C' (see w') /\ (∀ ad u, C' ad = some u -> C ad = some u ∨ w.heap.size <= ad.block ∨ blk y = some ad.block) /\ outs.length = β.length ∧
   (∀ (i b : Nat) (cs : List A), β[i]? = some b -> outs[i]? = some cs -> boxAt w' ⟨C', β, [y']⟩ b cs) /\ owR w' e k y' n' xs' /\ A.repC cs' ⟨C', [], []⟩ xs' /\ (∀ b, blk y' = some b -> (∀ o sp, C' ⟨b, o, sp⟩ = none) /\ (w.heap.size <= b ∨ blk y = some b)) /\ r.rep ⟨C', β, [y']⟩ v' := by
 obtain ⟨E, hp, ht, hd⟩ := hi
 unfold jui at hr
 obtain ⟨r, v, g1, g2, g3⟩ := jmR (fn := fn) hc hp ht hr
 refine ⟨hd, v, g3, ?_⟩
 have hmem : ∀ b, b ∈ (blk y).toList -> blk y = some b := fun b hb => by
  cases h : blk y with
  | none => rw [h] at hb; simp at hb
  | some x => rw [h] at hb; simp at hb; rw [hb]
 have hfr : ∀ b, W0.fr ⟨w, (blk y).toList⟩ b -> w.heap.size <= b ∨ blk y = some b := fun b hb => hb.imp id (hmem b)
 obtain ⟨C1, hp1, le1⟩ := hp.pubs (jx4 g (jjT r ++ jlX (jfq c.np s'.bx)))
 split at g1
 ·rename_i e' k' n cs hg
  split at g1
  ·rename_i hb1 hb2
   obtain rfl := Nat.eq_of_beq_eq_true hb1
   obtain rfl := Nat.eq_of_beq_eq_true hb2
   split at g1
   ·rename_i outs houts
    split at g1
    ·rename_i r' hr'
     have hgl := (List.getElem?_eq_some_iff.1 hg).1
     obtain ⟨y', hy'⟩ : ∃ y', E.ρ[g]? = some y' := ⟨_, List.getElem?_eq_getElem (by rw [<- hp1.rl]; exact hgl)⟩
     obtain ⟨xs, ⟨k1, kf⟩, k2⟩ := hp1.rws g _ y' hg hy'
     obtain ⟨β', hβ, hβ'⟩ := hp.bp
     have hβl : β.length <= E.β.length := by rw [hβ]; simp
     have hget : ∀ i : Nat, i < β.length -> E.β[i]? = β[i]? := fun i hi => by rw [hβ, List.getElem?_append_left hi]
     have hY : jcx ⟨C1, E.β, E.ρ⟩ (upto c.np) β := fun j i hj => by
      obtain ⟨rfl, hi⟩ := jjM hj
      have : i < β.length := by rw [hnp]; exact hi
      exact ⟨β[i], by simp [this], by rw [hget i this]; simp [this]⟩
     obtain ⟨q1, q2⟩ := jg3 houts
     have hbl := hp.bl
     refine ⟨outs, n, cs, r', v, y', xs, C1, rfl, g1, hp1.keep, hp1.base, hp1.sub, fun ad u hc => (hp1.fresh ad u hc).imp id fun h => hfr _ h, by rw [q1, jfD, List.length_take]; omega, fun i b cs h7 h8 => ?_, k1, k2, fun b hb => ⟨(hp1.rC g _ _ _ _ y' b hg hy' hb).2, hfr b (kf b hb)⟩, jon (E := ⟨C1, E.β, E.ρ⟩) hp1 hY hy' r hr' (A.rep.mono _ le1 g2)⟩
     obtain ⟨c0, h9, h10⟩ := q2 i cs h8
     have hi := (List.getElem?_eq_some_iff.1 h7).1
     rw [jfD, List.getElem?_take, if_pos (by omega)] at h9
     obtain ⟨T', arr, p1, p2⟩ := hp1.bxs i b c0 (by rw [<- h7]; exact hget i hi) h9
     exact ⟨T', arr, p1, p2.renG hp1 hY hy' h10⟩
    ·exact g1.elim
   ·exact g1.elim
  ·exact g1.elim
 ·exact g1.elim
theorem jgc {nt : Nat} {ins : List (List A)} {args : List A} {w : World} {C : Rd} {β : List Nat} {vals : List Value} {y : Value} {xs : List Value} {e k n : Nat} {cs : List A} (h0 : Gok C w) (h1 : Sub C (see w)) (h2 : β.Nodup) (h3 : ∀ b ∈ β, ∀ o sp, C ⟨b, o, sp⟩ = none) (h4 : ins.length = β.length)
  (h5 : ∀ (i b : Nat) (cs : List A), β[i]? = some b -> ins[i]? = some cs -> boxAt w ⟨C, β, [y]⟩ b cs) (h6 : owR w e k y n xs) (h7 : A.repC cs ⟨C, [], []⟩ xs) (h8 : ∀ b, blk y = some b -> b ∉ β /\ ∀ o sp, C ⟨b, o, sp⟩ = none) (h9 : A.repL args ⟨C, β, [y]⟩ vals) :
  Inv [] ⟨w, (blk y).toList⟩ C β ⟨args ++ List.replicate (nt - args.length) .dead, ins, [.live e k n cs]⟩ { tmps := vals.toArray ++ Array.replicate (nt - vals.toArray.size) undef, defers := [] } w := by
 have hl := A.repL_len h9
 have one : ∀ {g : Nat} {r : Row}, [Row.live e k n cs][g]? = some r -> g = 0 /\ r = .live e k n cs := fun {g r} hg => by
  cases g with
  | zero => simp at hg; exact ⟨rfl, hg.symm⟩
  | succ g => simp at hg
 refine ⟨⟨C, β, [y]⟩, ⟨h1, Sub.refl _, fun _ _ hc => .inl hc, ⟨[], by simp, by simp⟩, h2, h3, h4, h5, rfl, fun g r z hg hz => ?_, fun g e' k' n' cs' z b hg hz hb => ?_, fun g e' k' n' cs' z g' e2 k2 n2 cs2 z2 b hne hg _ hg' => ?_, fun g z hz => ?_, Keeps.refl _ _, h0, fun b hb => ?_⟩, ?_, rfl⟩
 ·obtain ⟨rfl, rfl⟩ := one hg
  obtain ⟨-, rfl⟩ := jfU hz
  exact ⟨xs, ⟨h6, fun b hb => .inr (by simp [hb])⟩, h7⟩
 ·obtain ⟨rfl, hr⟩ := one hg
  obtain ⟨-, rfl⟩ := jfU hz
  exact h8 b hb
 ·exact absurd ((one hg).1.trans (one hg').1.symm) hne
 ·obtain ⟨-, rfl⟩ := jfU hz
  exact h6.kind
 ·cases h : blk y with
  | none => rw [h] at hb; simp at hb
  | some x => rw [h] at hb; simp at hb; rw [hb]; exact (h8 x h).2
 ·have : (vals.toArray ++ Array.replicate (nt - vals.toArray.size) undef).toList = vals ++ List.replicate (nt - args.length) undef := by simp [hl]
  rw [this];exact A.repL_append h9 (jdl _ _)
theorem jnc {f : Nat} {fn : Func} {x : Code} {ins : List (List A)} {e k n : Nat} {cs args : List A} {post : List (List A) -> Nat -> List A -> A -> Prop} {pn : List PanicEntry -> Prop} (hc : c.ok) (hq : ∀ ch s, c.pan ch s -> pn ch) (hf : c.P.funcs[f]? = some fn) (hb : fn.body = some x) (hname : (fn.name == "runtime.NumGoroutine") = false)
  (hn : ins.length = c.np) (h : okL args -> jdU args (fn.ntmps - args.length) fun t => Ok c x ⟨t, ins, [.live e k n cs]⟩ (jzw c e k fn.results.toList post)) : SpecRP c.P f ins e k n cs args post pn := by
 refine ⟨jdu hf hb hname, fun w C β vals y xs h0 h1 h2 h3 h4 h5 h6 h7 h8 h9 => ?_⟩;refine calls_of_wp hf hb ?_
 have hinit := initK_iff.1 (h (jbz _ h9))
 have hinv := jgc (nt := fn.ntmps) h0 h1 h2 h3 h4 h5 h6 h7 h8 h9
 unfold Ok OkD at hinit;refine hinit ⟨w, (blk y).toList⟩ C β _ w _ (by rw [<- h4, hn]) hinv (fun ch s' a' w' hpan ⟨E, hp, ht, hd⟩ => ⟨hd, .inr ⟨ch, (List.range β.length).map fun i => (s'.bx.getD i []).length, rfl, hq ch s' hpan, hp.keep, by simp, fun i b n h7 h8 => ?_⟩⟩) ?_
 ·obtain ⟨β', hβ, hβ'⟩ := hp.bp
  have hi := (List.getElem?_eq_some_iff.1 h7).1
  have hbl := hp.bl
  have hβl : β.length <= E.β.length := by rw [hβ]; simp
  have hib : i < s'.bx.length := by omega
  rw [List.getElem?_map, List.getElem?_range hi] at h8;simp only [Option.map_some, Option.some.injEq] at h8;subst h8
  have e1 : E.β[i]? = some b := by rw [hβ, List.getElem?_append_left hi]; exact h7
  obtain ⟨T', arr, q1, q2⟩ := hp.bxs i b _ e1 (List.getElem?_eq_getElem hib)
  have e2 : (s'.bx.getD i []).length = s'.bx[i].length := by simp [List.getD_eq_getElem?_getD, hib]
  refine ⟨T', arr, q1, ?_⟩;rw [e2]
  have hl2 := q2.len
  have q2 := q2.1
  refine .mk' (A.repC_mk ?_ (A.repC_one q2))
  have := jfv (E := ⟨C, β, []⟩) (l := s'.bx[i]) hl2
  rw [List.map_const'] at this;exact this
 have fin : ∀ (s' : S) (a' : Act) (w' : World), (∃ g, jui c e k g fn.results.toList post s') -> Inv [] ⟨w, (blk y).toList⟩ C β s' a' w' -> _ := fun s' a' w' ⟨g, hr⟩ hi => jn6 (w := w) (C := C) (β := β) (s' := s') (a' := a') (w' := w') (fn := fn) (post := post) (y := y) hc (by rw [<- h4, hn]) hr hi
 intro e1 s' a' w' hq hi
 cases e1 with
 | normal => obtain ⟨k1, v, k2, k3⟩ := fin s' a' w' hq hi; exact ⟨k1, v, k2, .inl k3⟩
 | ret => obtain ⟨k1, v, k2, k3⟩ := fin s' a' w' hq hi; exact ⟨k1, v, k2, .inl k3⟩
 | _ => exact hq.elim
theorem jan {f : Nat} {fn : Func} {x : Code} {ins : List (List A)} {e k n : Nat} {cs args : List A} {post : List (List A) -> Nat -> List A -> A -> Prop} {pn : List PanicEntry -> Prop} (hc : c.ok) (hq : ∀ ch s, c.pan ch s -> pn ch) (hf : c.P.funcs[f]? = some fn) (hb : fn.body = some x) (hname : (fn.name == "runtime.NumGoroutine") = false)
  (hn : ins.length = c.np) (hord : jbT c.ord x = true) (h : okL args -> jdU args (fn.ntmps - args.length) fun t => awp c x ⟨t, ins, [.live e k n cs]⟩ (jzw c e k fn.results.toList post)) : SpecRP c.P f ins e k n cs args post pn :=
 jnc hc hq hf hb hname hn fun ho => initK_iff.2 (jb6 hc hord (initK_iff.1 (h ho)))
end
section
variable {P : Program} {pan : List PanicEntry -> S -> Prop} {Xr : Nat -> Bool} {f : Nat} {args args' : List A} {s : S} {K : A -> S -> Prop} {post : List (List A) -> Nat -> List A -> A -> Prop} {ins : List (List A)}
theorem jaI (i g m : Nat) (ids : List Nat) (hm : s.rw.length = m) {e k n : Nat} {cs c0 c1 : List A} {pn : List PanicEntry -> Prop} (hf : Xr 1000000007 = true) (hX : Xr i = true) (hi : s.bx[i]? = some c0) (hg : (ja3 s.rw ids)[g]? = some (.live e k n cs)) (h1 : jbH [i] g (ja3 s.rw ids) c0 = some c1) (h2 : jbH [i] g (ja3 s.rw ids) args = some args') (hs : okL args' -> SpecRP P f [c1] e k n cs args' post pn)
  (hpn : ∀ ch bx', pn ch -> bx'.length = s.bx.length -> (∀ j, j ≠ i -> bx'[j]? = s.bx[j]?) -> pan ch ⟨s.t, bx', (ja3 s.rw ids).set g .gone ++ [.live e k 0 []]⟩)
  (hk : ∀ o n' cs' r, post [o] n' cs' r -> jin [i] m s.bx [i] [o] fun bx' => jbM (backG [i] m r) fun r' => jaF ((ja3 s.rw ids).set g .gone ++ [.live e k n' cs']) fun rw' => jc7 s bx' rw' (K r')) : jcz P pan Xr f args s K := by
 subst hm;unfold jcz
 right; right; right; right; left
 have hil := (List.getElem?_eq_some_iff.1 hi).1
 refine ⟨hf, [i], ids, g, e, k, n, cs, [c1], args', post, pn, by simp, by simpa using hX, by simpa using hil, hg, ?_, h2, hs, fun outs n' cs' r hp hl => ?_, fun ch bx' h h1 h2 => hpn ch bx' h h1 fun j hj => h2 j (by simpa using hj)⟩
 ·have : s.bx.getD i [] = c0 := by simp [List.getD_eq_getElem?_getD, hi]
  simp only [List.map_cons, List.map_nil, this, jez, h1]
 ·obtain ⟨o, rfl⟩ : ∃ o, outs = [o] := List.length_eq_one_iff.1 (by simpa using hl)
  exact hk o n' cs' r hp
theorem ja6 (i g m : Nat) (ids : List Nat) (hm : s.rw.length = m) {e k n : Nat} {cs c0 c1 : List A} (hf : Xr 1000000007 = true) (hX : Xr i = true) (hi : s.bx[i]? = some c0) (hg : (ja3 s.rw ids)[g]? = some (.live e k n cs)) (h1 : jbH [i] g (ja3 s.rw ids) c0 = some c1) (h2 : jbH [i] g (ja3 s.rw ids) args = some args') (hs : okL args' -> jmx P f [c1] e k n cs args' post)
  (hk : ∀ o n' cs' r, post [o] n' cs' r -> jin [i] m s.bx [i] [o] fun bx' => jbM (backG [i] m r) fun r' => jaF ((ja3 s.rw ids).set g .gone ++ [.live e k n' cs']) fun rw' => jc7 s bx' rw' (K r')) : jcz P pan Xr f args s K :=
 jaI i g m ids hm hf hX hi hg h1 h2 hs (fun _ _ h => h.elim) hk
end
mutual
def jgJ (sel : List Nat) : A -> A
 | .own g => match idx sel g with
  | some j => .own j
  | none => .dead
 | .orow g o => match idx sel g with
  | some j => .orow j o
  | none => .dead
 | .clo f l => .clo f (jm9 sel l)
 | .bm f l => .bm f (jm9 sel l)
 | .agg l => .agg (jm9 sel l)
 | .tup l => .tup (jm9 sel l)
 | .box b o => .box b o
 | .mp ks vs => .mp ks vs
 | .gp g o => .gp g o
 | .adr T => .adr T
 | .err => .err
 | .num => .num
 | .dead => .dead
 | .v x => .v x
 | .sl k n cs => .sl k n cs
 | .pp cs => .pp cs
def jm9 (sel : List Nat) : List A -> List A
 | [] => []
 | a :: r => jgJ sel a :: jm9 sel r
end
theorem jfw (sel : List Nat) : ∀ l : List A, jm9 sel l = l.map (jgJ sel)
 | [] => by simp [jm9]
 | a :: r => by unfold jm9; rw [jfw sel r]; rfl
section
variable {E : Env} {sel : List Nat} {ρ' : List Value}
mutual
theorem jsz (hs : ∀ j g : Nat, sel[j]? = some g -> ρ'[j]? = E.ρ[g]?) : ∀ (a : A) {y : Value}, a.rep E y -> (jgJ sel a).rep ⟨E.C, E.β, ρ'⟩ y
 | .dead, y, _ => by unfold jgJ; exact A.rep_dead _ _
 | .v x, y, h => by unfold jgJ; unfold A.rep at h ⊢; exact h
 | .sl k n cs, y, h => by unfold jgJ; unfold A.rep at h ⊢; exact h
 | .pp cs, y, h => by unfold jgJ; unfold A.rep at h ⊢; exact h
 | .own g, y, h => by
  unfold jgJ
  split
  ·rename_i j hj
   unfold A.rep at h ⊢;exact (hs j g (jeH hj)).trans h
  ·exact A.rep_dead _ _
 | .orow g o, y, h => by
  unfold jgJ
  split
  ·rename_i j hj
   unfold A.rep at h ⊢
   obtain ⟨b, n, cap, h1, h2⟩ := h
   exact ⟨b, n, cap, (hs j g (jeH hj)).trans h1, h2⟩
  ·exact A.rep_dead _ _
 | .box j off, y, h => by unfold jgJ; unfold A.rep at h ⊢; exact h
 | .gp _ _, y, h => by unfold jgJ; unfold A.rep at h ⊢; exact h
 | .adr _, y, h => by unfold A.rep at h; exact h.elim
 | .err, y, h => by unfold jgJ; unfold A.rep at h ⊢; exact h
 | .num, y, h => by unfold jgJ; unfold A.rep at h ⊢; exact h
 | .clo f l, y, h => by
  unfold jgJ;unfold A.rep at h ⊢
  obtain ⟨us, h1, h2⟩ := h
  exact ⟨us, h1, jdD hs l h2⟩
 | .bm f l, y, h => by
  unfold jgJ;unfold A.rep at h ⊢
  obtain ⟨us, h1, h2⟩ := h
  exact ⟨us, h1, jdD hs l h2⟩
 | .mp ks vs, y, h => by unfold jgJ; unfold A.rep at h ⊢; exact h
 | .agg l, y, h => by
  unfold jgJ;unfold A.rep at h ⊢
  obtain ⟨us, h1, h2⟩ := h
  exact ⟨us, h1, A.repC_mk (jdD hs l (A.repC_L h2)) (A.repC_one h2)⟩
 | .tup l, y, h => by
  unfold jgJ;unfold A.rep at h ⊢
  obtain ⟨us, h1, h2⟩ := h
  exact ⟨us, h1, jdD hs l h2⟩
theorem jdD (hs : ∀ j g : Nat, sel[j]? = some g -> ρ'[j]? = E.ρ[g]?) : ∀ (l : List A) {us : List Value}, A.repL l E us -> A.repL (jm9 sel l) ⟨E.C, E.β, ρ'⟩ us
 | [], us, h => by unfold jm9; unfold A.repL at h ⊢; exact h
 | a :: r, us, h => by
  unfold jm9;unfold A.repL at h ⊢
  obtain ⟨u, us', h1, h2, h3⟩ := h
  exact ⟨u, us', h1, jsz hs a h2, jdD hs r h3⟩
end
end
def jlb : List Nat -> Bool
 | [] => true
 | x :: r => match jmW x r with | true => false | false => jlb r
theorem jiB : ∀ {l : List Nat}, jlb l = true -> l.Nodup
 | [], _ => List.nodup_nil
 | x :: r, h => by
  unfold jlb at h
  split at h
  ·cases h
  ·rename_i hm
   refine List.nodup_cons.2 ⟨fun hx => ?_, jiB h⟩;rw [memB_iff.2 hx] at hm; cases hm
theorem jyA {np : Nat} {s : S} (sel : List Nat) (hn : jlb sel = true) (hl : jkw sel s.rw.length = true) : Le np s ⟨jm9 sel s.t, s.bx.map (jm9 sel), sel.map fun g => s.rw.getD g .gone⟩ := by
 rintro dr w0 C0 β0 a w hdr e ⟨E, hp, hrep, hd⟩
 have hlt := jm2 hl
 have hnd := jiB hn
 have r1 := hp.rl
 have hs : ∀ j g : Nat, sel[j]? = some g -> (sel.map fun g => E.ρ.getD g undef)[j]? = E.ρ[g]? := fun j g h => by
  have hg : g < E.ρ.length := by rw [<- r1]; exact hlt g (List.mem_iff_getElem?.2 ⟨j, h⟩)
  simp [h, List.getD_eq_getElem?_getD, hg]
 have row : ∀ {j : Nat} {r : Row}, (sel.map fun g => s.rw.getD g .gone)[j]? = some r -> ∃ g, sel[j]? = some g /\ s.rw[g]? = some r := fun {j r} h => by
  rw [List.getElem?_map, Option.map_eq_some_iff] at h
  obtain ⟨g, h1, h2⟩ := h
  have hg := hlt g (List.mem_iff_getElem?.2 ⟨j, h1⟩)
  exact ⟨g, h1, by rw [<- h2]; simp [List.getD_eq_getElem?_getD, hg]⟩
 have val : ∀ {j : Nat} {y : Value}, (sel.map fun g => E.ρ.getD g undef)[j]? = some y -> ∃ g, sel[j]? = some g /\ E.ρ[g]? = some y := fun {j y} h => by
  have h0 := h
  rw [List.getElem?_map, Option.map_eq_some_iff] at h
  obtain ⟨g, h1, h2⟩ := h
  exact ⟨g, h1, by rw [<- hs j g h1]; exact h0⟩
 refine ⟨⟨E.C, E.β, sel.map fun g => E.ρ.getD g undef⟩, ⟨hp.sub, hp.base, hp.fresh, hp.bp, hp.bnd, hp.bC, by simpa using hp.bl, fun i b cs h1 h2 => ?_, by simp, fun j r y h1 h2 => ?_, fun j e k n cs y b h1 h2 h3 => ?_, fun j e k n cs y j' e' k' n' cs' z b hne h1 h2 h3 h4 h5 => ?_, fun j y h1 => ?_, hp.keep, hp.gk⟩, jdD hs _ hrep, repD.keep (E := E) (F := ⟨E.C, E.β, sel.map fun g => E.ρ.getD g undef⟩) (Sub.refl _) (fun _ _ h => h) hdr hd⟩
 ·rw [List.getElem?_map, Option.map_eq_some_iff] at h2
  obtain ⟨c0, h2, rfl⟩ := h2
  obtain ⟨T', arr, h3, h4⟩ := hp.bxs i b c0 h1 h2
  rw [jfw];refine ⟨T', arr, h3, h4.map (jgJ sel) (fun l us k => by rw [<- jfw]; exact jdD hs l k) (by unfold jgJ; rfl) (fun t => by unfold jgJ; rfl) fun a t e => ?_⟩
  cases a <;> unfold jgJ at e <;> (try split at e) <;> first | (cases e; done) | (cases e; rfl)
 ·obtain ⟨g, k1, k2⟩ := row h1
  obtain ⟨g', k3, k4⟩ := val h2
  obtain rfl := Option.some.inj (k1.symm.trans k3)
  have := hp.rws g r y k2 k4
  cases r with
  | live e k n cs => exact this
  | pub k n cs =>
   have h5 : (A.sl k n cs).rep _ y := this
   show (A.sl k n cs).rep _ y
   unfold A.rep at h5 ⊢; exact h5
  | gone => trivial
 ·obtain ⟨g, k1, k2⟩ := row h1
  obtain ⟨g', k3, k4⟩ := val h2
  obtain rfl := Option.some.inj (k1.symm.trans k3)
  exact hp.rC g e k n cs y b k2 k4 h3
 ·obtain ⟨g, k1, k2⟩ := row h1
  obtain ⟨g', k3, k4⟩ := val h2
  obtain rfl := Option.some.inj (k1.symm.trans k3)
  obtain ⟨x, q1, q2⟩ := row h3
  obtain ⟨x', q3, q4⟩ := val h4
  obtain rfl := Option.some.inj (q1.symm.trans q3)
  exact hp.rd g e k n cs y x e' k' n' cs' z b (fun e9 => hne (by subst e9; exact jla hnd k1 q1)) k2 k4 q2 q4 h5
 ·obtain ⟨g, k1, k2⟩ := val h1
  exact hp.rs g y k2
def jr0 (sel : List Nat) : List (List A) -> (List (List A) -> Prop) -> Prop
 | [], K => K []
 | c :: l, K => jgF (jgJ sel) c fun c' => jr0 sel l fun r => K (c' :: r)
theorem jkB {sel : List Nat} : ∀ {l : List (List A)} {K : List (List A) -> Prop}, jr0 sel l K ↔ K (l.map (jm9 sel))
 | [], K => by simp [jr0]
 | c :: l, K => by simp [jr0, jax, jkB (l := l), jfw]
def jAT (sel : List Nat) (rw : List Row) : List Row := sel.map fun g => rw.getD g .gone
def jyW (sel : List Nat) (t : List A) (bx : List (List A)) (rw : List Row) (K : S -> Prop) : Prop :=
 match jlb sel with
 | true => match jkw sel rw.length with
  | true => jgF (jgJ sel) t fun t' => jr0 sel bx fun bx' => jaF (jAT sel rw) fun rw' => K ⟨t', bx', rw'⟩
  | false => False
 | false => False
theorem joQ {sel : List Nat} {t : List A} {bx : List (List A)} {rw : List Row} {K : S -> Prop} (h : jyW sel t bx rw K) : ∃ s', (∀ np, Le np ⟨t, bx, rw⟩ s') /\ K s' := by
 unfold jyW at h
 split at h
 ·rename_i h1
  split at h
  ·rename_i h2
   rw [jax, jkB, jaz] at h;refine ⟨_, fun np => jyA (s := ⟨t, bx, rw⟩) sel h1 h2, ?_⟩
   show K ⟨jm9 sel t, bx.map (jm9 sel), jAT sel rw⟩
   rw [jfw];exact h
  ·exact h.elim
 ·exact h.elim
theorem jgP {np : Nat} {f : S -> (Exit -> S -> Prop) -> Prop} {t : List A} {bx : List (List A)} {rw : List Row} {Q : Exit -> S -> Prop} (sel : List Nat) (h : jyW sel t bx rw fun s' => jdW np f s' Q) : jdW np f ⟨t, bx, rw⟩ Q := by
 obtain ⟨s', h1, h2⟩ := joQ h
 exact jsa (h1 _) h2
theorem jas {X : Type} {np : Nat} {t t0 : List A} {bx : List (List A)} {rw : List Row} {g : X -> List (Nat × A)} {hb : X -> List (List A)} {hr : X -> List Row} {x : X} (sel : List Nat) (h : jyW sel t bx rw fun s' => jmy t0 g hb hr x fun s2 => LeS np s' s2) : Le np ⟨t, bx, rw⟩ (ji7 t0 g hb hr x) := by
 obtain ⟨s', h1, h2⟩ := joQ h
 exact (h1 np).trans (jic (headK_iff.1 h2))
theorem Hp.pubMap {w0 : W0} {w : World} {C0 : Rd} {β0 : List Nat} {s : S} {E : Env} (h : Hp w0 C0 β0 s.bx s.rw w E) {g e n f f' : Nat} {kA vs : List A} {ks : List Value} (hg : s.rw[g]? = some (.live e 0 n [.clo f kA, .clo f' vs])) (hk : ∀ us, A.repL kA E.per us -> us = ks /\ ∀ k ∈ ks, okV k) :
  ∃ C' y, E.ρ[g]? = some y /\ Hp w0 C0 β0 s.bx (s.rw.set g .gone) w ⟨C', E.β, E.ρ⟩ /\ E.le ⟨C', E.β, E.ρ⟩ /\ (A.mp ks vs).rep ⟨C', E.β, E.ρ⟩ y := by
 have hgl := (List.getElem?_eq_some_iff.1 hg).1
 obtain ⟨y, hy⟩ : ∃ y, E.ρ[g]? = some y := ⟨_, List.getElem?_eq_getElem (by rw [<- h.rl]; exact hgl)⟩
 obtain ⟨r, es, c, us, e1, hr, hn, hst, h2, hks, hvs⟩ := jjQ h hg hy
 obtain ⟨hks, hok⟩ := hk _ hks
 have hb : blk y = some r := by rw [e1]; rfl
 obtain ⟨hrn, hrC⟩ := h.rC g e 0 n _ y r hg hy hb
 refine ⟨fun ad => if ad.block = r then (see w) ad else E.C ad, y, hy, ?_⟩
 have hC : Sub E.C (fun ad => if ad.block = r then (see w) ad else E.C ad) := fun ad u hc => by
  simp only
  split
  ·exact h.sub ad u hc
  ·exact hc
 have le : E.le ⟨fun ad => if ad.block = r then (see w) ad else E.C ad, E.β, E.ρ⟩ := ⟨hC, fun _ _ h => h, fun _ _ h => h⟩
 have live : ∀ {j e k n : Nat} {cs : List A}, (s.rw.set g .gone)[j]? = some (.live e k n cs) -> s.rw[j]? = some (.live e k n cs) /\ j ≠ g := fun {j e k n cs} hj => by
  rw [List.getElem?_set] at hj
  split at hj
  ·cases hj
  ·rename_i hne; exact ⟨hj, fun e => hne e.symm⟩
 refine ⟨⟨fun ad u hc => ?_, h.base.trans hC, fun ad u hc => ?_, h.bp, h.bnd, fun b hb' o sp => ?_, h.bl, fun i b cs' h1 h2 => (h.bxs i b cs' h1 h2).mono le, by simp [h.rl], fun j r' z h1 h2 => ?_, fun j e' k' n' cs' z b h1 h2 h3 => ?_, fun j e1' k1 n1 cs1 z j' e2 k2 n2 cs2 z' b hne h1 h2 h3 h4 h5 => h.rd j e1' k1 n1 cs1 z j' e2 k2 n2 cs2 z' b hne (live h1).1 h2 (live h3).1 h4 h5, h.rs, h.keep, h.gk⟩, le, ?_⟩
 ·simp only at hc
  split at hc
  ·exact hc
  ·exact h.sub ad u hc
 ·simp only at hc
  split at hc
  ·rename_i hb2
   right
   have := (h.rlt hg hy hb).1
   rw [hb2]; exact this
  ·exact h.fresh ad u hc
 ·simp only
  rw [if_neg (fun hb2 : b = r => hrn (by rw [<- hb2]; exact hb'))];exact h.bC b hb' o sp
 ·rw [List.getElem?_set] at h1
  split at h1
  ·cases h1; trivial
  ·exact (h.rws j r' z h1 h2).mono le (fun _ _ _ _ _ _ _ => rfl)
 ·obtain ⟨h4, h5⟩ := live h1
  obtain ⟨q1, q2⟩ := h.rC j e' k' n' cs' z b h4 h2 h3
  refine ⟨q1, fun o sp => ?_⟩
  simp only
  rw [if_neg (fun hb2 : b = r => h.rd g e 0 n _ y j e' k' n' cs' z r (Ne.symm h5) hg hy h4 h2 hb (by rw [<- hb2]; exact h3))];exact q2 o sp
 ·unfold A.rep;refine ⟨r, us, e1, ?_, ?_, A.repL.mono _ le.per hvs, hok⟩
  ·simp only [if_true];unfold see jeA;simp only [hr];rw [if_pos hst]
   have q1 : es.map (·.key) = ks.toArray := by
    apply Array.toList_inj.1
    rw [<- hks]; simp
   have q2 : es.map (·.val) = us.toArray := by
    apply Array.toList_inj.1
    rw [<- h2]; simp
   rw [q1, q2]
  ·rw [A.repL_len hvs |>.symm, <- h2, <- hks]; simp
def juA (g : Nat) (m : A) (a : A) : A := match a with
 | .own j => match Nat.beq j g with
  | true => m
  | false => .own j
 | a => a
def jkN (g : Nat) (m : A) : List (List A) -> (List (List A) -> Prop) -> Prop
 | [], K => K []
 | c :: l, K => jgF (juA g m) c fun c' => jkN g m l fun r => K (c' :: r)
theorem jj0 {g : Nat} {m : A} : ∀ {l : List (List A)} {K : List (List A) -> Prop}, jkN g m l K ↔ K (l.map fun c => c.map (juA g m))
 | [], K => by simp [jkN]
 | c :: l, K => by simp [jkN, jax, jj0 (l := l)]
theorem jsE {E : Env} {g : Nat} {m a : A} {y v : Value} (hg : E.ρ[g]? = some v) (hm : m.rep E v) (h : a.rep E y) : (juA g m a).rep E y := by
 cases a with
 | own j =>
  unfold juA
  simp only
  split
  ·rename_i hb
   have := Nat.eq_of_beq_eq_true hb
   subst this;unfold A.rep at h;rw [hg] at h
   cases h; exact hm
  ·exact h
 | _ => exact h
theorem jhw {E : Env} {g : Nat} {m : A} {v : Value} (hg : E.ρ[g]? = some v) (hm : m.rep E v) : ∀ {l : List A} {us : List Value}, A.repL l E us -> A.repL (l.map (juA g m)) E us
 | [], us, h => by simpa using h
 | a :: r, us, h => by
  unfold A.repL at h
  obtain ⟨u, us', rfl, h2, h3⟩ := h
  simp only [List.map_cons];unfold A.repL;exact ⟨u, us', rfl, jsE hg hm h2, jhw hg hm h3⟩
theorem jhj : ∀ {l : List A} {K : List Value -> Prop}, jib l K -> ∃ ks, K ks /\ ∀ (E : Env) us, A.repL l E us -> us = ks /\ ∀ k ∈ ks, okV k
 | [], K, h => ⟨[], h, fun E us hr => by unfold A.repL at hr; exact ⟨hr, by simp⟩⟩
 | a :: l, K, h => by
  unfold jib at h
  split at h
  ·rename_i x
   obtain ⟨ks, h1, h2⟩ := jhj h
   refine ⟨x :: ks, h1, fun E us hr => ?_⟩;unfold A.repL at hr
   obtain ⟨u, us', rfl, h3, h4⟩ := hr
   obtain ⟨rfl, h5⟩ := h2 E _ h4
   obtain ⟨rfl, h6⟩ := A.rep_v_iff.1 h3
   refine ⟨rfl, fun k hk => ?_⟩
   rcases List.mem_cons.1 hk with rfl | hk
   ·exact h6
   ·exact h5 k hk
  ·exact h.elim
def jyk (g : Nat) (rw : List Row) (K : A -> List Row -> Prop) : Prop :=
 match rw[g]? with
 | some (.live _ z _ cs) => match z with
  | 0 => match cs with
   | [.clo _ kA, .clo _ vs] => jib kA fun ks => jju rw g .gone fun rw' => K (.mp ks vs) rw'
   | _ => False
  | _ + 1 => False
 | _ => False
theorem jqi {c : Cx} {x : Code} {t : List A} {bx : List (List A)} {rw : List Row} {q : Exit -> S -> Prop} (g : Nat)
  (h : jyk g rw fun m rw' => jgF (juA g m) t fun t' => jkN g m bx fun bx' => Ok c x ⟨t', bx', rw'⟩ q) : Ok c x ⟨t, bx, rw⟩ q := by
 unfold jyk at h
 split at h
 ·rename_i e z n cs hg
  split at h
  ·split at h
   ·rename_i f kA f' vs
    obtain ⟨ks, h, hks⟩ := jhj h
    obtain ⟨-, h⟩ := jaW h
    rw [jax, jj0] at h;refine jwx ?_ h;rintro dr w0 C0 β0 a w hdr _ ⟨E, hp, hrep, hd⟩
    obtain ⟨C', y, hy, hp', le, hm⟩ := hp.pubMap (s := ⟨t, bx, rw⟩) (ks := ks) hg (hks E.per)
    refine ⟨⟨C', E.β, E.ρ⟩, ?_, jhw (E := ⟨C', E.β, E.ρ⟩) hy hm (A.repL.mono _ le hrep), hd.mono le⟩;refine ⟨hp'.sub, hp'.base, hp'.fresh, hp'.bp, hp'.bnd, hp'.bC, by simpa using hp'.bl, fun i b cs h1 h2 => ?_, hp'.rl, hp'.rws, hp'.rC, hp'.rd, hp'.rs, hp'.keep, hp'.gk⟩;rw [List.getElem?_map, Option.map_eq_some_iff] at h2
    obtain ⟨c0, h2, rfl⟩ := h2
    obtain ⟨T', arr, h3, h4⟩ := hp'.bxs i b c0 h1 h2
    refine ⟨T', arr, h3, h4.map (juA g (.mp ks vs)) (fun l us k => jhw (E := ⟨C', E.β, E.ρ⟩) hy hm k) rfl (fun t => rfl) fun a t e => ?_⟩;unfold juA at e
    split at e
    ·split at e <;> cases e
    ·exact e
   ·exact h.elim
  ·exact h.elim
 ·exact h.elim
end
end Go.Proofs.YtmodkpibkkpcdaaGreatDoor.Vm
namespace Go.Proofs.YtmodkpibkkpcdaaGreatDoor.Vm
open Go.RowKit Go.Shelf
set_option linter.unusedSimpArgs false
set_option linter.unusedVariables false
set_option maxRecDepth 100000
theorem jdi : Tryz.prog.underlying 90 = some (.pointer 92) := by kernel_rfl
theorem jdX : Tryz.prog.underlying 169 = some .unsafePointer := by kernel_rfl
theorem jgo : ∃ j, Tryz.prog.info? 92 = some j /\ j.size = 2 := by
 have h : (Tryz.prog.info? 92).map (·.size) = some 2 := by kernel_rfl
 obtain ⟨j, h1, h2⟩ := Option.map_eq_some_iff.1 h
 exact ⟨j, h1, h2⟩
set_option maxHeartbeats 1000000 in
theorem jid (b : Nat) (w : World) (h0 : w.cell? ⟨b, 0, none⟩ = some (.pointer (some ⟨b, 0, none⟩))) :
  Calls Tryz.prog 117 #[.pointer (some ⟨b, 0, none⟩)] w fun e w' => e = .returned (.tuple #[]) /\ w' = w := by
 obtain ⟨j, hj, hjs⟩ := jgo
 have u1 := run_underlying (P := Tryz.prog) jdi
 go_enter Tryz.func117, Tryz.ntmps117
 go_wp2
 rw [Lib.run_neq_ptr_same w _ jdi hj]
 go_wp2
 go_end0
 exact ⟨rfl, rfl⟩
set_option maxHeartbeats 1000000 in
theorem jhn (b T : Nat) (w : World) (h0 : w.cell? ⟨b, 0, none⟩ = some (.pointer none)) (hsh : w.shape? b = some (T, 2)) (hfz : w.frozen? ⟨b, 0, none⟩ = false) (hl : liesAt Tryz.prog Tryz.prog.depth T (2 / Tryz.prog.cellsOf T) 0 92 1 = true) :
  Calls Tryz.prog 117 #[.pointer (some ⟨b, 0, none⟩)] w fun e w' => e = .returned (.tuple #[]) /\ w' = w.setCell ⟨b, 0, none⟩ (.pointer (some ⟨b, 0, none⟩)) := by
 obtain ⟨j, hj, hjs⟩ := jgo
 have u1 := run_underlying (P := Tryz.prog) jdi
 have u2 := run_underlying (P := Tryz.prog) jdX
 go_enter Tryz.func117, Tryz.ntmps117
 go_wp2
 rw [Lib.run_to_unsafe w ⟨b, 0, none⟩ jdi jdX hj (by rw [hjs]; decide) hsh (Nat.zero_lt_succ 1)];simp only [Result.andThen];rw [Oper.upon_value]
 go_wp2
 rw [run_callFunc_extern Tryz.func139 (by kernel_rfl) (by kernel_rfl) (by kernel_rfl) (e := Extern.AbiNoEscape.same) (by kernel_rfl)];rw [Lib.run_noEscape];simp only [Result.andThen];rw [Oper.upon_value]
 go_wp2
 rw [Lib.run_from_unsafe w ⟨b, 0, none⟩ jdX jdi hj hsh hl];simp only [Result.andThen];rw [Oper.upon_value]
 go_wp2
 go_end0
 exact ⟨rfl, rfl⟩
theorem jeE (T e k n : Nat) (cs : List A) (hl : liesAt Tryz.prog Tryz.prog.depth T (2 / Tryz.prog.cellsOf T) 0 92 1 = true) : jmx Tryz.prog 117 [[.adr T, .own 0]] e k n cs [.box 0 0] fun o n' cs' r => o = [[.adr T, .own 0]] /\ n' = n /\ cs' = cs /\ r = .tup [] := by
 refine ⟨jdu Tryz.func117 rfl (by kernel_rfl), fun w C β vals y xs h0 h1 h2 h3 h4 h5 h6 h7 h8 h9 => ?_⟩
 obtain ⟨b, rfl⟩ : ∃ b, β = [b] := List.length_eq_one_iff.1 h4.symm
 unfold A.repL at h9
 obtain ⟨u, us, rfl, hu, h9⟩ := h9
 unfold A.repL at h9;subst h9;unfold A.rep at hu
 obtain ⟨b', hb', rfl⟩ := hu
 have : b' = b := by simpa using hb'.symm
 subst this
 obtain ⟨T', arr, hh, hbc⟩ := h5 0 b' _ rfl rfl
 obtain ⟨rfl, hadr⟩ := hbc.2 T _ rfl
 have hlen : arr.size = 2 := by have := hbc.len; simpa using this
 have hrow : ∀ w' : World, (∀ q, q ≠ b' -> w'.heap[q]? = w.heap[q]?) -> owR w' e k y n xs := fun w' hw => h6.same fun q hq => hw q fun e9 => (h8 q hq).1 (by simp [e9])
 have hres : (A.tup []).rep ⟨C, [b'], [y]⟩ (.tuple #[]) := by unfold A.rep; exact ⟨_, rfl, by simp [A.repL]⟩
 have hbl : ∀ q, blk y = some q -> (∀ o sp, C ⟨q, o, sp⟩ = none) /\ (w.heap.size <= q ∨ blk y = some q) := fun q hq => ⟨(h8 q hq).2, .inr hq⟩
 rcases hadr with hadr | hadr
 ·refine (jhn b' T w (by simp [World.cell?, hh, hadr]) (by unfold World.shape?; rw [hh]; simp [hlen]) (by simp [World.frozen?, hh]) hl).mono ?_;rintro e' w' ⟨rfl, rfl⟩
  have kp := Keeps.set w b' 0 (.pointer (some ⟨b', 0, none⟩))
  refine .inl ⟨_, n, cs, .tup [], .tuple #[], y, xs, C, rfl, ⟨rfl, rfl, rfl, rfl⟩, ⟨kp.os, kp.tape, kp.output, kp.size, fun q hq hn => kp.block q hq (by simp at hn ⊢; exact hn.1)⟩, Sub.refl _, fun ad v hc => kp.cell (h1 ad v hc) (fun hm => ?_), fun ad v hc => .inl hc, rfl, fun i q ds hq hds => ?_, hrow _ fun q hq => by
   exact Below.heap_setCell _ _ _ _ (by simpa using hq), h7, hbl, hres⟩
  ·simp at hm
   have : C ad = none := by
    have := h3 ad.block (by rw [hm]; simp) ad.off ad.spot
    exact this
   rw [this] at hc; cases hc
  ·cases i with
   | succ i => simp at hq
   | zero =>
    simp at hq hds
    subst hq; subst hds;refine ⟨T, arr.setIfInBounds 0 (.pointer (some ⟨b', 0, none⟩)), jmB hh 0 _, ?_, fun t r e9 => ?_⟩
    ·have := A.repC_set hbc.1 0 (a := .dead) (u := .pointer (some ⟨b', 0, none⟩)) (A.rep_dead _ _) rfl
     rw [Array.toList_setIfInBounds];exact this
    ·cases e9
     exact ⟨rfl, .inr (by simp [hlen])⟩
 ·refine (jid b' w (by simp [World.cell?, hh, hadr])).mono ?_;rintro e' w' ⟨rfl, rfl⟩;exact .inl ⟨_, n, cs, .tup [], .tuple #[], y, xs, C, rfl, ⟨rfl, rfl, rfl, rfl⟩, Keeps.refl _ _, Sub.refl _, h1, fun ad v hc => .inl hc, rfl, h5, h6, h7, hbl, hres⟩
abbrev jll (f : Nat) (ins : List (List A)) (s : ByteArray) (args : List A) (post : List (List A) -> ByteArray -> A -> Prop) : Prop :=
 jmx Tryz.prog f ins 5 0 s.size [.v (.string s)] args fun o n cs r => ∃ s', n = s'.size /\ cs = [.v (.string s')] /\ post o s' r
theorem jpP (T : Nat) (s : ByteArray) : jll 83 [[.adr T, .own 0]] s [.box 0 0] fun o s' r => o = [[.adr T, .own 0]] /\ s' = s /\ r = .v (.int .i64 s.size) := by
 refine jan (ja2 jal xs0 1) (fun _ _ h => h) Tryz.func83 rfl (by kernel_rfl) rfl (by kernel_rfl) ?_;intro _;conv => whnf
 refine ⟨0, ?_⟩;conv => whnf
 refine ⟨s, ?_⟩;conv => whnf
 exact ⟨rfl, rfl, rfl, rfl, rfl⟩
theorem jgk (T : Nat) (s : ByteArray) (hs : 0 < s.size) : jll 53 [[.adr T, .own 0]] s [.box 0 0] fun o s' r => o = [[.adr T, .own 0]] /\ s' = s /\ r = .v (.string s) := by
 refine jan (ja2 jA0 xs0 1) (fun _ _ h => h) Tryz.func53 rfl (by kernel_rfl) rfl (by kernel_rfl) ?_;intro _;conv => whnf
 refine ⟨hs, ?_⟩;conv => whnf
 refine ⟨⟨hs, rfl⟩, ?_⟩;conv => whnf
 refine ⟨0, ?_⟩;conv => whnf
 refine ⟨s, ?_⟩;conv => whnf
 exact ⟨rfl, rfl, rfl, rfl, rfl⟩
theorem jcQ (T : Nat) (hl : liesAt Tryz.prog Tryz.prog.depth T (2 / Tryz.prog.cellsOf T) 0 92 1 = true) (s b : ByteArray) (hs : s.size + b.size <= 140737488355328) : jll 86 [[.adr T, .own 0]] s [.box 0 0, .v (.string b)] fun o s' r => o = [[.adr T, .own 0]] /\ s' = s ++ b /\ r = .tup [.v (.int .i64 b.size), .v .nilIface] := by
 have hc := jeE T 5 0 s.size [.v (.string s)] hl
 refine jan (ja2 jal xs0 1) (fun _ _ h => h) Tryz.func86 rfl (by kernel_rfl) rfl (by kernel_rfl) ?_;intro _;conv => whnf
 refine ja6 0 0 1 [] rfl rfl rfl rfl rfl rfl rfl (fun _ => hc) ?_;rintro o n' cs' r ⟨ho, rfl, rfl, rfl⟩;cases ho;conv => whnf
 refine ⟨hs, ?_⟩;conv => whnf
 refine ⟨2, ?_⟩;conv => whnf
 refine ⟨s ++ b, ?_⟩;conv => whnf
 exact ⟨by rw [ByteArray.size_append], rfl, rfl, rfl, rfl⟩
theorem jkH (T : Nat) (hl : liesAt Tryz.prog Tryz.prog.depth T (2 / Tryz.prog.cellsOf T) 0 92 1 = true) (s : ByteArray) (c : Int) (hc0 : 0 <= c /\ c <= 255) (hs : s.size + 1 <= 140737488355328) : jll 85 [[.adr T, .own 0]] s [.box 0 0, .v (.int .u8 c)] fun o s' r => o = [[.adr T, .own 0]] /\ s' = s ++ jrL c /\ r = .v .nilIface := by
 have hc := jeE T 5 0 s.size [.v (.string s)] hl
 refine jan (ja2 jal xs0 1) (fun _ _ h => h) Tryz.func85 rfl (by kernel_rfl) rfl (by kernel_rfl) ?_;intro _;conv => whnf
 refine ja6 0 0 1 [] rfl rfl rfl rfl rfl rfl rfl (fun _ => hc) ?_;rintro o n' cs' r ⟨ho, rfl, rfl, rfl⟩;cases ho;conv => whnf
 refine ⟨hs, ?_⟩;conv => whnf
 refine ⟨3, ?_⟩;conv => whnf
 refine ⟨s ++ jrL c, ?_⟩;conv => whnf
 exact ⟨by rw [ByteArray.size_append], rfl, rfl, rfl, rfl⟩
def spW : List (List UInt8) -> List UInt8
 | [] => [32]
 | w :: l => 32 :: (w ++ spW l)
theorem ju4 (l : List (List UInt8)) : ∃ z, spW l = 32 :: z := by cases l <;> exact ⟨_, rfl⟩
theorem joP : ∀ (t w z : List UInt8), (∀ c ∈ t, c ≠ 32) -> (∀ c ∈ w, c ≠ 32) -> (t ++ [32]).isPrefixOf (w ++ 32 :: z) = decide (t = w)
 | [], [], z, _, _ => by simp [List.isPrefixOf]
 | [], c :: w, z, _, h => by
  have := h c List.mem_cons_self
  rw [decide_eq_false (by simp)];simp only [List.nil_append, List.cons_append, List.isPrefixOf];rw [beq_eq_false_iff_ne.2 (Ne.symm this)]; rfl
 | d :: t, [], z, h, _ => by
  have := h d List.mem_cons_self
  rw [decide_eq_false (by simp)];simp only [List.nil_append, List.cons_append, List.isPrefixOf];rw [beq_eq_false_iff_ne.2 this]; rfl
 | d :: t, c :: w, z, h, k => by
  have ih := joP t w z (fun x hx => h x (List.mem_cons_of_mem _ hx)) fun x hx => k x (List.mem_cons_of_mem _ hx)
  simp only [List.cons_append, List.isPrefixOf];rw [ih]
  by_cases hdc : d = c
  ·subst hdc;rw [beq_self_eq_true, Bool.true_and]
   congr 1
   simp
  ·rw [beq_eq_false_iff_ne.2 hdc, Bool.false_and, decide_eq_false];intro e;rw [List.cons.injEq] at e;exact hdc e.1
theorem jhP (b : UInt8) (l sub : List UInt8) (h : sub.isPrefixOf (b :: l) = false) : Lib.contains (b :: l) sub = Lib.contains l sub := by
 unfold Lib.contains;rw [Lib.index, h];rw [if_neg (by decide)]
 have := Lib.index_ge l sub
 by_cases hm : Lib.index l sub = -1
 ·rw [if_pos (by rw [hm]; rfl), hm]
 ·rw [if_neg (by rw [beq_iff_eq]; exact hm), decide_eq_true (by omega), decide_eq_true (by omega)]
theorem jlA : ∀ (w l u : List UInt8), (∀ c ∈ w, c ≠ 32) -> Lib.contains (w ++ l) (32 :: u) = Lib.contains l (32 :: u)
 | [], l, u, _ => rfl
 | c :: w, l, u, h => by
  have := h c List.mem_cons_self
  rw [List.cons_append, jhP _ _ _ (by simp only [List.isPrefixOf]; rw [beq_eq_false_iff_ne.2 (Ne.symm this)]; rfl)]
  exact jlA w l u fun x hx => h x (List.mem_cons_of_mem _ hx)
theorem jgf (t : List UInt8) (ht : ∀ c ∈ t, c ≠ 32) : ∀ (l : List (List UInt8)), (∀ w ∈ l, ∀ c ∈ w, c ≠ 32) -> Lib.contains (spW l) (32 :: (t ++ [32])) = decide (t ∈ l)
 | [], _ => by
  rw [decide_eq_false (by simp)]
  show Lib.contains [32] _ = false
  rw [jhP _ _ _ (by cases t with
   | nil => simp [List.isPrefixOf]
   | cons c t => simp [List.isPrefixOf])]
  unfold Lib.contains;rw [Lib.index]; rfl
 | w :: l, h => by
  have ih := jgf t ht l fun x hx => h x (List.mem_cons_of_mem _ hx)
  obtain ⟨z, hz⟩ := ju4 l
  have hp : (32 :: (t ++ [32])).isPrefixOf (32 :: (w ++ spW l)) = decide (t = w) := by
   simp only [List.isPrefixOf];rw [beq_self_eq_true, Bool.true_and, hz];exact joP t w z ht (h w List.mem_cons_self)
  show Lib.contains (32 :: (w ++ spW l)) _ = _
  by_cases hw : t = w
  ·rw [decide_eq_true hw] at hp;unfold Lib.contains;rw [Lib.index, hp];simp only [if_true];rw [decide_eq_true (by omega), decide_eq_true (by rw [hw]; exact List.mem_cons_self)]
  ·rw [decide_eq_false hw] at hp;rw [jhP _ _ _ hp, jlA w _ _ (h w List.mem_cons_self), ih]
   congr 1
   simp [hw]
def jlq (t : Tk) : Prop := t.text.size <= 1000000000 /\ jm8 (jp4 t.text).1.data.toList /\ (jp4 t.text).1.size <= 1000000000 /\ 0 <= t.n /\ t.n <= 2147483647 /\ t.pos <= 1000000000
def TkW : List Tk -> Prop
 | [] => False
 | t :: r => jlq t /\ ((r = [] /\ t.kind = 0 /\ t.text.data.toList = []) ∨ (t.kind ≠ 0 /\ TkW r))
theorem TkW.pos {ts : List Tk} (h : TkW ts) : 0 < ts.length := by
 cases ts with
 | nil => exact h.elim
 | cons t r => simp
theorem TkW.good {ts : List Tk} (h : TkW ts) : jlq (hd ts) := by
 cases ts with
 | nil => exact h.elim
 | cons t r => exact h.1
theorem TkW.tail {ts : List Tk} (h : TkW ts) (hk : (hd ts).kind ≠ 0) : TkW ts.tail := by
 cases ts with
 | nil => exact h.elim
 | cons t r =>
  rcases h.2 with ⟨_, h2, _⟩ | ⟨_, h2⟩
  ·exact absurd h2 hk
  ·exact h2
theorem jo9 {s : ByteArray} {ts : List Tk} (h : isT s ts = true) : (hd ts).kind ≠ 0 := by
 unfold isT at h;simp only [Bool.and_eq_true, Bool.not_eq_true', decide_eq_false_iff_not] at h;exact h.2.2
theorem TkW.is {s : ByteArray} {ts : List Tk} (h : TkW ts) (k : isT s ts = true) : TkW ts.tail := h.tail (jo9 k)
end Go.Proofs.YtmodkpibkkpcdaaGreatDoor.Vm
namespace Go.Proofs.YtmodkpibkkpcdaaGreatDoor.Vm
open Go.RowKit
set_option linter.unusedSimpArgs false
set_option linter.unusedVariables false
section
def SpecV (P : Program) (f : Nat) (cs args : List A) (post : List A -> A -> Prop) (pn : List PanicEntry -> Prop) : Prop :=
 ∀ y : Value, okV y -> SpecP P f [cs ++ [.v y]] args (fun o r => ∃ c, o = [c ++ [.v y]] /\ post c r) pn
theorem jfE {a : A} (ha : ∀ t, a ≠ .adr t) : ∀ c : List A, unH (c ++ [a]) = unH c ++ [a]
 | [] => by cases a <;> first | rfl | exact absurd rfl (ha _)
 | x :: c => by cases x <;> rfl
theorem repL_snoc {E : Env} {a : A} : ∀ {c : List A} {us : List Value}, A.repL (c ++ [a]) E us ↔ ∃ us1 u, us = us1 ++ [u] /\ A.repL c E us1 /\ a.rep E u
 | [], us => by
  rw [List.nil_append]
  constructor
  ·intro h;unfold A.repL at h
   obtain ⟨u, us', rfl, h1, h2⟩ := h
   unfold A.repL at h2;subst h2;exact ⟨[], u, rfl, by unfold A.repL; rfl, h1⟩
  ·rintro ⟨us1, u, rfl, h1, h2⟩;unfold A.repL at h1;subst h1;unfold A.repL;exact ⟨u, [], rfl, h2, by unfold A.repL; rfl⟩
 | x :: c, us => by
  rw [List.cons_append]
  constructor
  ·intro h;unfold A.repL at h
   obtain ⟨u, us', rfl, h1, h2⟩ := h
   obtain ⟨us1, v, rfl, h3, h4⟩ := repL_snoc.1 h2
   exact ⟨u :: us1, v, rfl, by unfold A.repL; exact ⟨u, us1, rfl, h1, h3⟩, h4⟩
  ·rintro ⟨us1, u, rfl, h1, h2⟩;unfold A.repL at h1
   obtain ⟨u1, us2, rfl, h3, h4⟩ := h1
   unfold A.repL;exact ⟨u1, us2 ++ [u], rfl, h3, repL_snoc.2 ⟨us2, u, rfl, h4, h2⟩⟩
theorem js7 {nb nr : Nat} {l : List A} (h : jbS nb nr l = true) : jbS nb nr (unH l) = true := by
 cases l with
 | nil => exact h
 | cons a l => cases a <;> exact h
theorem jhv {T b : Nat} {E F : Env} {c : List A} {a a' : A} {arr : Array Value} (ha : ∀ t, a ≠ .adr t) (ha' : ∀ t, a' ≠ .adr t) (hc : ∀ us, A.repL (unH c) E us -> A.repL (unH c) F us) (hl : ∀ u, a.rep E u -> u.oneCell' = true -> a'.rep F u) (h : boxC T b (c ++ [a]) E arr) : boxC T b (c ++ [a']) F arr := by
 obtain ⟨h1, h2⟩ := h
 rw [jfE ha] at h1
 have hone := A.repC_one h1
 obtain ⟨us1, u, he, h3, h4⟩ := repL_snoc.1 (A.repC_L h1)
 refine ⟨?_, fun t r e => ?_⟩
 ·rw [jfE ha'];refine A.repC_mk (repL_snoc.2 ⟨us1, u, he, hc _ h3, hl u h4 (hone u (by rw [he]; simp))⟩) hone
 ·cases c with
  | nil =>
   rw [List.nil_append, List.cons.injEq] at e;exact absurd e.1 (ha' t)
  | cons x c =>
   rw [List.cons_append, List.cons.injEq] at e;exact h2 t (c ++ [a]) (by rw [e.1]; rfl)
theorem jr2 (C : Rd) (β : List Nat) (y : Value) : (⟨C, β, []⟩ : Env).le ⟨C, β, [y]⟩ := ⟨Sub.refl _, fun _ _ h => h, fun _ _ h => by simp at h⟩
theorem jwV {w : World} {e k : Nat} {y : Value} {n : Nat} {xs : List Value} (h : owR w e k y n xs) : okV y := by
 rcases h.kind with ⟨_, _, _, rfl⟩ | ⟨_, rfl⟩ | ⟨_, rfl⟩ <;> exact trivial
theorem joW {T b : Nat} {E : Env} {c : List A} {a : A} {arr : Array Value} (ha : ∀ t, a ≠ .adr t) (h : boxC T b (c ++ [a]) E arr) : ∃ us1 u, arr.toList = us1 ++ [u] /\ a.rep E u := by
 have h1 := h.1
 rw [jfE ha] at h1
 obtain ⟨us1, u, he, h3, h4⟩ := repL_snoc.1 (A.repC_L h1)
 exact ⟨us1, u, he, h4⟩
section
variable {P : Program} {f : Nat} {cs args : List A} {post : List A -> A -> Prop} {pn : List PanicEntry -> Prop}
theorem SpecV.mono {post' : List A -> A -> Prop} {pn' : List PanicEntry -> Prop} (h : SpecV P f cs args post pn) (hp : ∀ c r, post c r -> post' c r) (hn : ∀ ch, pn ch -> pn' ch) : SpecV P f cs args post' pn' :=
 fun y hy => (h y hy).mono (fun o r ⟨c, h1, h2⟩ => ⟨c, h1, hp _ _ h2⟩) hn
theorem SpecV.rp (h : SpecV P f cs args post pn) (hc : jbS 1 0 cs = true) (ha : jbS 1 0 args = true) (e k n : Nat) (rc : List A) :
  SpecRP P f [cs ++ [.own 0]] e k n rc args (fun o n' rc' r => ∃ c, o = [c ++ [.own 0]] /\ n' = n /\ rc' = rc /\ post c r) pn := by
 refine ⟨(h (.bool true) trivial).1, fun w C β vals y xs h0 h1 h2 h3 h4 h5 h6 h7 h8 h9 => ?_⟩
 obtain ⟨b, rfl⟩ : ∃ b, β = [b] := List.length_eq_one_iff.1 h4.symm
 have hy := jwV h6
 have drop : ∀ l us, jbS 1 0 l = true -> A.repL l ⟨C, [b], [y]⟩ us -> A.repL l ⟨C, [b], []⟩ us := fun l us hr hl => jbt l hr hl
 refine ((h y hy).2 w C [b] vals h0 h1 h2 h3 rfl (fun i b' c hb hi => ?_) (drop _ _ ha h9)).mono fun e' w' hh => ?_
 ·obtain ⟨T, arr, hh, hbc⟩ := h5 i b' (cs ++ [.own 0]) hb (by cases i with
   | zero => rfl
   | succ i => simp at hi)
  have : c = cs ++ [.v y] := by cases i with
   | zero => simpa using hi.symm
   | succ i => simp at hi
  subst this;refine ⟨T, arr, hh, jhv (fun t e => by cases e) (fun t e => by cases e) (fun us hu => drop _ _ (js7 hc) hu) (fun u hu _ => ?_) hbc⟩;unfold A.rep at hu
  have : y = u := by simpa using hu
  subst this;exact A.rep_v hy
 ·rcases hh with ⟨outs, r, v, rfl, ⟨c, rfl, hpost⟩, kp, k2, k3, k4⟩ | ⟨ch, ns, k1, k2, kp, k4, k5⟩
  ·have le : (⟨jbq C w w', [b], []⟩ : Env).le ⟨jbq C w w', [b], [y]⟩ := jr2 _ _ _
   have hsub := jei h1 h3 kp
   refine .inl ⟨[c ++ [.own 0]], n, rc, r, v, y, xs, jbq C w w', rfl, ⟨c, rfl, rfl, rfl, hpost⟩, ⟨kp.os, kp.tape, kp.output, kp.size, fun q hq hn => kp.block q hq fun hm => hn (List.mem_append_left _ hm)⟩, jcm h1, hsub, fun ad u hc => ?_, by simp, fun i b' c' hb hi => ?_, h6.same fun q hq => ?_, ?_, fun q hq => ⟨fun o sp => ?_, .inr hq⟩, A.rep.mono _ le k4⟩
   ·unfold jbq at hc
    split at hc
    ·exact .inl hc
    ·exact .inr (.inl (by omega))
   ·obtain ⟨T, arr, hh, hbc⟩ := k3 i b' (c ++ [.v y]) hb (by cases i with
     | zero => rfl
     | succ i => simp at hi)
    have : c' = c ++ [.own 0] := by cases i with
     | zero => simpa using hi.symm
     | succ i => simp at hi
    subst this;refine ⟨T, arr, hh, jhv (fun t e => by cases e) (fun t e => by cases e) (fun us hu => A.repL.mono _ le hu) (fun u hu _ => ?_) hbc⟩
    obtain ⟨rfl, -⟩ := A.rep_v_iff.1 hu
    unfold A.rep; rfl
   ·exact kp.block q (h6.lt hq) (h8 q hq).1
   ·exact A.repC.mono _ (show (⟨C, [], []⟩ : Env).le ⟨jbq C w w', [], []⟩ from ⟨jcm h1, fun _ _ h => h, fun _ _ h => h⟩) h7
   ·unfold jbq;rw [if_pos (show (⟨q, o, sp⟩ : Addr).block < w.heap.size from h6.lt hq)];exact (h8 q hq).2 o sp
  ·exact .inr ⟨ch, ns, k1, k2, ⟨kp.os, kp.tape, kp.output, kp.size, fun q hq hn => kp.block q hq fun hm => hn (List.mem_append_left _ hm)⟩, k4, k5⟩
theorem SpecV.q (h : SpecV P f cs args post pn) (k n : Nat) (l : List A) :
  SpecP P f [cs ++ [.sl k n l]] args (fun o r => ∃ c, o = [c ++ [.sl k n l]] /\ post c r) pn := by
 refine ⟨(h (.bool true) trivial).1, fun w C β vals h0 h1 h2 h3 h4 h5 h6 => ?_⟩
 obtain ⟨b, rfl⟩ : ∃ b, β = [b] := List.length_eq_one_iff.1 h4.symm
 obtain ⟨T0, arr0, hb0, hc0⟩ := h5 0 b _ rfl rfl
 obtain ⟨us1, y, hy1, hy2⟩ := joW (fun t e => by cases e) hc0
 have hy : okV y := by
  unfold A.rep at hy2
  obtain ⟨_, _, p, b', off, cap, rfl, _⟩ := hy2
  exact trivial
 refine ((h y hy).2 w C [b] vals h0 h1 h2 h3 rfl (fun i b' c hb hi => ?_) h6).mono fun e' w' hh => ?_
 ·have hi0 : i = 0 := by cases i with
   | zero => rfl
   | succ i => simp at hi
  subst hi0
  obtain rfl : b = b' := by simpa using hb
  obtain rfl : cs ++ [.v y] = c := by simpa using hi
  have hc0' : boxC T0 b (cs ++ [.sl k n l]) ⟨C, [b], []⟩ arr0 := hc0
  refine ⟨T0, arr0, hb0, ?_⟩
  obtain ⟨g1, g2⟩ := hc0'
  rw [jfE (fun t e => by cases e)] at g1
  have hone := A.repC_one g1
  obtain ⟨us2, u2, he2, g3, g4⟩ := repL_snoc.1 (A.repC_L g1)
  have hu2 : u2 = y := by
   rw [hy1] at he2
   have := List.append_inj_right' he2 rfl
   simpa using this.symm
  subst hu2;refine ⟨?_, fun t r e => ?_⟩
  ·rw [jfE (fun t e => by cases e)];exact A.repC_mk (repL_snoc.2 ⟨us2, u2, he2, g3, A.rep_v hy⟩) hone
  ·cases cs with
   | nil =>
    rw [List.nil_append, List.cons.injEq] at e
    cases e.1
   | cons x c =>
    rw [List.cons_append, List.cons.injEq] at e;exact g2 t (c ++ [.sl k n l]) (by rw [e.1]; rfl)
 ·rcases hh with ⟨outs, r, v, rfl, ⟨c, rfl, hpost⟩, kp, k2, k3, k4⟩ | hbad
  ·have le : (⟨C, [b], []⟩ : Env).le ⟨jbq C w w', [b], []⟩ := ⟨jcm h1, fun _ _ h => h, fun _ _ h => h⟩
   refine .inl ⟨[c ++ [.sl k n l]], r, v, rfl, ⟨c, rfl, hpost⟩, kp, by simp, fun i b' c' hb hi => ?_, k4⟩
   obtain ⟨T, arr, hh, hbc⟩ := k3 i b' (c ++ [.v y]) hb (by cases i with
    | zero => rfl
    | succ i => simp at hi)
   have : c' = c ++ [.sl k n l] := by cases i with
    | zero => simpa using hi.symm
    | succ i => simp at hi
   subst this;refine ⟨T, arr, hh, jhv (fun t e => by cases e) (fun t e => by cases e) (fun us hu => hu) (fun u hu _ => ?_) hbc⟩
   obtain ⟨rfl, -⟩ := A.rep_v_iff.1 hu
   exact A.rep.mono _ le hy2
  ·exact .inr hbad
end
end
end Go.Proofs.YtmodkpibkkpcdaaGreatDoor.Vm
namespace Go.Proofs.YtmodkpibkkpcdaaGreatDoor.Vm
open Go.RowKit Go.Shelf
set_option linter.unusedSimpArgs false
set_option linter.unusedVariables false
set_option maxRecDepth 100000
def jgv : Go.Shelf.Ren := ⟨fun | 143 => 151 | 144 => 127 | 217 => 193 | 219 => 182 | 224 => 195 | 225 => 194 | 266 => 201 | 267 => 196 | 314 => 202 | n => n, fun | 46 => 163 | 51 => 193 | 146 => 219 | n => n, fun | 1 => 2 | n => n⟩
theorem jl1 : Lays.n144 Tryz.prog jgv where
 mixed := by kernel_rfl
 f143 := Tryz.func151.trans (congrArg some (by kernel_rfl))
 f144 := Tryz.func127.trans (congrArg some (by kernel_rfl))
 f217 := Tryz.func193.trans (congrArg some (by kernel_rfl))
 f219 := Tryz.func182.trans (congrArg some (by kernel_rfl))
 f224 := Tryz.func195.trans (congrArg some (by kernel_rfl))
 f225 := Tryz.func194.trans (congrArg some (by kernel_rfl))
 f266 := Tryz.func201.trans (congrArg some (by kernel_rfl))
 f267 := Tryz.func196.trans (congrArg some (by kernel_rfl))
 f314 := Tryz.func202.trans (congrArg some (by kernel_rfl))
 t3 := Tryz.underlying3
 a3 := Tryz.isAgg3
 z3 := Tryz.sizeOf3
 v3 := Tryz.zeroValue3
 t4 := Tryz.underlying4
 a4 := Tryz.isAgg4
 z4 := Tryz.sizeOf4
 v4 := Tryz.zeroValue4
 t5 := Tryz.underlying5
 a5 := Tryz.isAgg5
 z5 := Tryz.sizeOf5
 v5 := Tryz.zeroValue5
 t9 := Tryz.underlying9
 a9 := Tryz.isAgg9
 z9 := Tryz.sizeOf9
 v9 := Tryz.zeroValue9
 t46 := Tryz.underlying163
 a46 := Tryz.isAgg163
 z46 := Tryz.sizeOf163
 v46 := Tryz.zeroValue163
 t51 := Tryz.underlying193
 a51 := Tryz.isAgg193
 z51 := Tryz.sizeOf193
 v51 := Tryz.zeroValue193
 t146 := Tryz.underlying219
 a146 := Tryz.isAgg219
 z146 := Tryz.sizeOf219
 v146 := Tryz.zeroValue219
 g1 := by kernel_rfl

theorem jiC (s sub : ByteArray) (hs : s.size <= 1000000000) : Spec Tryz.prog 127 [] [jaS s, jaS sub] fun _ r => r = jbI (Lib.contains s.data.toList sub.data.toList) := by
 refine jgU (jeP Tryz.func127 rfl (by kernel_rfl)) fun w C vals h0 h1 h2 => ?_
 obtain rfl := jg2 (l := [.string s, .string sub]) h2
 have hg := h0.at (g := 2) (cs := [.num]) rfl
 simp only [A.repAt, A.rep] at hg
 obtain ⟨⟨u, k1, k2, m, rfl⟩, -⟩ := hg
 refine (Any.strings_Contains jl1 s sub m w (by omega) (h1 _ _ k1)).mono ?_;rintro e w' ⟨rfl, rfl⟩;exact ⟨_, rfl, Ext.refl _, A.rep_v trivial⟩
def txA (l : List ByteArray) : List A := l.map jaS
def bxQ (nm : List ByteArray) (ts : List Tk) : List A := [.sl 4 ts.length (jer ts), .sl 1 nm.length (txA nm)]
def jaC (p e : Int) : List PanicEntry := [⟨.iface 80 (.agg #[.int .i64 p, .int .i64 e]), false, false⟩]
def bxN (ts : List Tk) : List A := [.sl 4 ts.length (jer ts)]
theorem jgh (ts : List Tk) (h : 0 < ts.length) (e : Int) : SpecV Tryz.prog 107 (bxN ts) [.box 0 0, jao e] (fun _ _ => False) fun ch => ch = jaC (hd ts).pos e := fun y hy => by
 have hr := jdI h
 refine jam (jat jal xs0 1 (fun ch _ => (fun ch => ch = jaC (hd ts).pos e) ch)) (fun _ _ h => h) Tryz.func107 rfl (by kernel_rfl) rfl (by kernel_rfl) ?_;intro _;generalize hd ts = t at *;conv => whnf
 (refine goA ?_; try with_reducible exact trivial)
 (generalize hrq : jae _ _ (jer ts) = rq; obtain rfl : rq = tkL t := hrq.symm.trans (hr); clear hrq; conv => whnf)
 (refine goA ?_; try with_reducible exact trivial)
 rfl
theorem jcq (nm : List ByteArray) (ts : List Tk) (h : 0 < ts.length) (e : Int) : SpecP Tryz.prog 107 [bxQ nm ts] [.box 0 0, jao e] (fun _ _ => False) fun ch => ch = jaC (hd ts).pos e :=
 ((jgh ts h e).q 1 nm.length (txA nm)).mono (fun _ _ ⟨_, _, k⟩ => k) fun _ k => k
theorem jiQ (ts : List Tk) (h : 0 < ts.length) : SpecV Tryz.prog 105 (bxN ts) [.box 0 0] (fun c r => c = bxN ts.tail /\ r = .agg (tkL (hd ts))) fun _ => False := fun y hy => by
 have hr := jdI h
 have htl := jtW h
 have hln : ts.tail.length = ts.length - 1 := by simp
 refine jam (jat jal xs0 1 (fun ch _ => (fun _ => False) ch)) (fun _ _ h => h) Tryz.func105 rfl (by kernel_rfl) rfl (by kernel_rfl) ?_;intro _;generalize hd ts = t at *;conv => whnf
 (refine goA ?_; try with_reducible exact trivial)
 (generalize hrq : jae _ _ (jer ts) = rq; obtain rfl : rq = tkL t := hrq.symm.trans (hr); clear hrq; conv => whnf)
 (refine goA ?_; try with_reducible exact trivial)
 refine ⟨bxN ts.tail, ?_, rfl, rfl⟩;unfold bxN;rw [show ((ts.length : Int).toNat - Int.toNat 1) = ts.length - 1 by omega, show Int.toNat 1 * 4 = 4 from rfl, htl, hln];rfl
theorem jbm (nm : List ByteArray) (ts : List Tk) (h : 0 < ts.length) : Spec Tryz.prog 105 [bxQ nm ts] [.box 0 0] fun o r => o = [bxQ nm ts.tail] /\ r = .agg (tkL (hd ts)) :=
 (((jiQ ts h).q 1 nm.length (txA nm)).mono (fun _ _ ⟨_, k1, k2, k3⟩ => ⟨by rw [k1, k2]; rfl, k3⟩) fun _ k => k).toS
theorem jzv (ts : List Tk) (h : 0 < ts.length) (s : ByteArray) : SpecV Tryz.prog 66 (bxN ts) [.box 0 0, jaS s] (fun c r => c = bxN ts /\ r = jbI (isP s ts)) fun _ => False := fun y hy => by
 have hr := jdI h
 unfold isP;refine jam (jat jal xs0 1 (fun ch _ => (fun _ => False) ch)) (fun _ _ h => h) Tryz.func66 rfl (by kernel_rfl) rfl (by kernel_rfl) ?_;intro _;generalize hd ts = t at *;conv => whnf
 (refine goA ?_; try with_reducible exact trivial)
 (generalize hrq : jae _ _ (jer ts) = rq; obtain rfl : rq = tkL t := hrq.symm.trans (hr); clear hrq; conv => whnf)
 by_cases h1 : t.text = s
 ·rw [decide_eq_true h1];conv => whnf
  by_cases h2 : t.kind = 1
  ·rw [decide_eq_true h2];conv => whnf
   exact ⟨_, rfl, rfl, rfl⟩
  ·rw [decide_eq_false h2];conv => whnf
   exact ⟨_, rfl, rfl, rfl⟩
 ·rw [decide_eq_false h1];conv => whnf
  exact ⟨_, rfl, rfl, rfl⟩
theorem jcO (nm : List ByteArray) (ts : List Tk) (h : 0 < ts.length) (s : ByteArray) : Spec Tryz.prog 66 [bxQ nm ts] [.box 0 0, jaS s] fun o r => o = [bxQ nm ts] /\ r = jbI (isP s ts) :=
 (((jzv ts h s).q 1 nm.length (txA nm)).mono (fun _ _ ⟨_, k1, k2, k3⟩ => ⟨by rw [k1, k2]; rfl, k3⟩) fun _ k => k).toS
end Go.Proofs.YtmodkpibkkpcdaaGreatDoor.Vm
