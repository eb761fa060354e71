/- The types of this program, and how its drawn regions are walked: printed by vmgen.py. -/
import Derived.Test.YtlmdmmikocbmlaaRows
import Derived.Test.YtlmdmmikocbmlaaVm14
namespace Go.Proofs.Ytlmdmmikocbmlaa.Vm
set_option linter.unusedSimpArgs false
set_option linter.unusedVariables false
def tab : List (Nat × Te) := [
  (1, ⟨.other, [.nilFunc], 8⟩),
  (2, ⟨.int .i64, [.int .i64 0], 8⟩),
  (3, ⟨.int .i64, [.int .i64 0], 8⟩),
  (4, ⟨.bool, [.bool false], 1⟩),
  (5, ⟨.int .u8, [.int .u8 0], 1⟩),
  (6, ⟨.int .u8, [.int .u8 0], 1⟩),
  (7, ⟨.struct [(0, 2), (1, 3), (2, 4), (3, 6)], [.int .i64 0, .int .i64 0, .bool false, .int .u8 0], 24⟩),
  (8, ⟨.struct [(0, 2), (1, 3), (2, 4), (3, 6)], [.int .i64 0, .int .i64 0, .bool false, .int .u8 0], 24⟩),
  (9, ⟨.str, [.string ⟨#[]⟩], 16⟩),
  (10, ⟨.str, [.string ⟨#[]⟩], 16⟩),
  (11, ⟨.str, [.string ⟨#[]⟩], 16⟩),
  (12, ⟨.int .u64, [.int .u64 0], 8⟩),
  (13, ⟨.struct [(0, 9), (1, 12)], [.string ⟨#[]⟩, .int .u64 0], 24⟩),
  (14, ⟨.struct [(0, 9), (1, 12)], [.string ⟨#[]⟩, .int .u64 0], 24⟩),
  (15, ⟨.other, [.pointer none], 8⟩),
  (16, ⟨.other, [.pointer none], 8⟩),
  (17, ⟨.other, [.pointer none], 8⟩),
  (18, ⟨.struct [(0, 17)], [.pointer none], 8⟩),
  (19, ⟨.struct [(0, 17)], [.pointer none], 8⟩),
  (20, ⟨.other, [.nilIface], 16⟩),
  (21, ⟨.int .i32, [.int .i32 0], 4⟩),
  (22, ⟨.slice 3, [.slice none 0 0], 24⟩),
  (23, ⟨.slice 25, [.slice none 0 0], 24⟩),
  (24, ⟨.struct [(0, 3), (1, 3), (2, 9), (3, 23)], [.int .i64 0, .int .i64 0, .string ⟨#[]⟩, .slice none 0 0], 56⟩),
  (25, ⟨.struct [(0, 3), (1, 3), (2, 9), (3, 23)], [.int .i64 0, .int .i64 0, .string ⟨#[]⟩, .slice none 0 0], 56⟩),
  (26, ⟨.other, [.nilFunc], 8⟩),
  (27, ⟨.int .i64, [.int .i64 0], 8⟩),
  (28, ⟨.other, [.nilFunc], 8⟩),
  (29, ⟨.other, [.nilFunc], 8⟩),
  (30, ⟨.other, [.nilFunc], 8⟩),
  (31, ⟨.other, [.nilFunc], 8⟩),
  (32, ⟨.slice 9, [.slice none 0 0], 24⟩),
  (33, ⟨.slice 46, [.slice none 0 0], 24⟩),
  (34, ⟨.struct [(0, 32), (1, 32), (2, 33)], [.slice none 0 0, .slice none 0 0, .slice none 0 0], 72⟩),
  (35, ⟨.struct [(0, 32), (1, 32), (2, 33)], [.slice none 0 0, .slice none 0 0, .slice none 0 0], 72⟩),
  (36, ⟨.other, [.nilFunc], 8⟩),
  (37, ⟨.int .i64, [.int .i64 0], 8⟩),
  (38, ⟨.other, [.nilFunc], 8⟩),
  (39, ⟨.other, [.nilFunc], 8⟩),
  (40, ⟨.slice 4, [.slice none 0 0], 24⟩),
  (41, ⟨.other, [.nilFunc], 8⟩),
  (42, ⟨.other, [.nilFunc], 8⟩),
  (44, ⟨.other, [.nilFunc], 8⟩),
  (45, ⟨.struct [(0, 3), (1, 25)], [.int .i64 0, .int .i64 0, .int .i64 0, .string ⟨#[]⟩, .slice none 0 0], 64⟩),
  (46, ⟨.struct [(0, 3), (1, 25)], [.int .i64 0, .int .i64 0, .int .i64 0, .string ⟨#[]⟩, .slice none 0 0], 64⟩),
  (47, ⟨.other, [.nilFunc], 8⟩),
  (48, ⟨.other, [.nilFunc], 8⟩),
  (49, ⟨.other, [.nilFunc], 8⟩),
  (50, ⟨.other, [.nilFunc], 8⟩),
  (51, ⟨.other, [.nilFunc], 8⟩),
  (52, ⟨.other, [.nilFunc], 8⟩),
  (53, ⟨.other, [.nilFunc], 8⟩),
  (54, ⟨.other, [.pointer none], 8⟩),
  (55, ⟨.other, [.nilFunc], 8⟩),
  (56, ⟨.struct [(0, 22), (1, 3)], [.slice none 0 0, .int .i64 0], 32⟩),
  (57, ⟨.struct [(0, 22), (1, 3)], [.slice none 0 0, .int .i64 0], 32⟩),
  (58, ⟨.other, [.nilFunc], 8⟩),
  (59, ⟨.other, [.nilFunc], 8⟩),
  (60, ⟨.struct [(0, 27), (1, 27)], [.int .i64 0, .int .i64 0], 16⟩),
  (61, ⟨.struct [(0, 27), (1, 27)], [.int .i64 0, .int .i64 0], 16⟩),
  (62, ⟨.other, [.map none], 8⟩),
  (63, ⟨.other, [.nilFunc], 8⟩),
  (64, ⟨.other, [.nilFunc], 8⟩),
  (65, ⟨.other, [.nilFunc], 8⟩),
  (66, ⟨.other, [.nilFunc], 8⟩),
  (67, ⟨.other, [.nilFunc], 8⟩),
  (68, ⟨.other, [.nilFunc], 8⟩),
  (69, ⟨.other, [.nilFunc], 8⟩),
  (70, ⟨.other, [.nilFunc], 8⟩),
  (71, ⟨.other, [.nilFunc], 8⟩),
  (72, ⟨.other, [.nilFunc], 8⟩),
  (73, ⟨.other, [.nilFunc], 8⟩),
  (74, ⟨.struct [(0, 17), (1, 17), (2, 17), (3, 9)], [.pointer none, .pointer none, .pointer none, .string ⟨#[]⟩], 40⟩),
  (75, ⟨.struct [(0, 17), (1, 17), (2, 17), (3, 9)], [.pointer none, .pointer none, .pointer none, .string ⟨#[]⟩], 40⟩),
  (76, ⟨.arr 0 16, [], 0⟩),
  (77, ⟨.struct [(0, 76)], [], 0⟩),
  (78, ⟨.struct [(0, 76)], [], 0⟩),
  (79, ⟨.other, [.nilFunc], 8⟩),
  (80, ⟨.int .u32, [.int .u32 0], 4⟩),
  (81, ⟨.int .u8, [.int .u8 0], 1⟩),
  (82, ⟨.int .u8, [.int .u8 0], 1⟩),
  (83, ⟨.other, [.nilFunc], 8⟩),
  (84, ⟨.other, [.pointer none], 8⟩),
  (85, ⟨.int .i32, [.int .i32 0], 4⟩),
  (86, ⟨.int .i32, [.int .i32 0], 4⟩),
  (87, ⟨.struct [(0, 12), (1, 12), (2, 80), (3, 81), (4, 5), (5, 5), (6, 82), (7, 83), (8, 84), (9, 85), (10, 86)], [.int .u64 0, .int .u64 0, .int .u32 0, .int .u8 0, .int .u8 0, .int .u8 0, .int .u8 0, .nilFunc, .pointer none, .int .i32 0, .int .i32 0], 48⟩),
  (88, ⟨.struct [(0, 12), (1, 12), (2, 80), (3, 81), (4, 5), (5, 5), (6, 82), (7, 83), (8, 84), (9, 85), (10, 86)], [.int .u64 0, .int .u64 0, .int .u32 0, .int .u8 0, .int .u8 0, .int .u8 0, .int .u8 0, .nilFunc, .pointer none, .int .i32 0, .int .i32 0], 48⟩),
  (89, ⟨.other, [.pointer none], 8⟩)]
set_option maxRecDepth 100000 in
theorem tab_ok : Tab.ok Try.prog tab :=
  Tab.ok_cons (by kernel_rfl) <|
  Tab.ok_cons (by kernel_rfl) <|
  Tab.ok_cons (by kernel_rfl) <|
  Tab.ok_cons (by kernel_rfl) <|
  Tab.ok_cons (by kernel_rfl) <|
  Tab.ok_cons (by kernel_rfl) <|
  Tab.ok_cons (by kernel_rfl) <|
  Tab.ok_cons (by kernel_rfl) <|
  Tab.ok_cons (by kernel_rfl) <|
  Tab.ok_cons (by kernel_rfl) <|
  Tab.ok_cons (by kernel_rfl) <|
  Tab.ok_cons (by kernel_rfl) <|
  Tab.ok_cons (by kernel_rfl) <|
  Tab.ok_cons (by kernel_rfl) <|
  Tab.ok_cons (by kernel_rfl) <|
  Tab.ok_cons (by kernel_rfl) <|
  Tab.ok_cons (by kernel_rfl) <|
  Tab.ok_cons (by kernel_rfl) <|
  Tab.ok_cons (by kernel_rfl) <|
  Tab.ok_cons (by kernel_rfl) <|
  Tab.ok_cons (by kernel_rfl) <|
  Tab.ok_cons (by kernel_rfl) <|
  Tab.ok_cons (by kernel_rfl) <|
  Tab.ok_cons (by kernel_rfl) <|
  Tab.ok_cons (by kernel_rfl) <|
  Tab.ok_cons (by kernel_rfl) <|
  Tab.ok_cons (by kernel_rfl) <|
  Tab.ok_cons (by kernel_rfl) <|
  Tab.ok_cons (by kernel_rfl) <|
  Tab.ok_cons (by kernel_rfl) <|
  Tab.ok_cons (by kernel_rfl) <|
  Tab.ok_cons (by kernel_rfl) <|
  Tab.ok_cons (by kernel_rfl) <|
  Tab.ok_cons (by kernel_rfl) <|
  Tab.ok_cons (by kernel_rfl) <|
  Tab.ok_cons (by kernel_rfl) <|
  Tab.ok_cons (by kernel_rfl) <|
  Tab.ok_cons (by kernel_rfl) <|
  Tab.ok_cons (by kernel_rfl) <|
  Tab.ok_cons (by kernel_rfl) <|
  Tab.ok_cons (by kernel_rfl) <|
  Tab.ok_cons (by kernel_rfl) <|
  Tab.ok_cons (by kernel_rfl) <|
  Tab.ok_cons (by kernel_rfl) <|
  Tab.ok_cons (by kernel_rfl) <|
  Tab.ok_cons (by kernel_rfl) <|
  Tab.ok_cons (by kernel_rfl) <|
  Tab.ok_cons (by kernel_rfl) <|
  Tab.ok_cons (by kernel_rfl) <|
  Tab.ok_cons (by kernel_rfl) <|
  Tab.ok_cons (by kernel_rfl) <|
  Tab.ok_cons (by kernel_rfl) <|
  Tab.ok_cons (by kernel_rfl) <|
  Tab.ok_cons (by kernel_rfl) <|
  Tab.ok_cons (by kernel_rfl) <|
  Tab.ok_cons (by kernel_rfl) <|
  Tab.ok_cons (by kernel_rfl) <|
  Tab.ok_cons (by kernel_rfl) <|
  Tab.ok_cons (by kernel_rfl) <|
  Tab.ok_cons (by kernel_rfl) <|
  Tab.ok_cons (by kernel_rfl) <|
  Tab.ok_cons (by kernel_rfl) <|
  Tab.ok_cons (by kernel_rfl) <|
  Tab.ok_cons (by kernel_rfl) <|
  Tab.ok_cons (by kernel_rfl) <|
  Tab.ok_cons (by kernel_rfl) <|
  Tab.ok_cons (by kernel_rfl) <|
  Tab.ok_cons (by kernel_rfl) <|
  Tab.ok_cons (by kernel_rfl) <|
  Tab.ok_cons (by kernel_rfl) <|
  Tab.ok_cons (by kernel_rfl) <|
  Tab.ok_cons (by kernel_rfl) <|
  Tab.ok_cons (by kernel_rfl) <|
  Tab.ok_cons (by kernel_rfl) <|
  Tab.ok_cons (by kernel_rfl) <|
  Tab.ok_cons (by kernel_rfl) <|
  Tab.ok_cons (by kernel_rfl) <|
  Tab.ok_cons (by kernel_rfl) <|
  Tab.ok_cons (by kernel_rfl) <|
  Tab.ok_cons (by kernel_rfl) <|
  Tab.ok_cons (by kernel_rfl) <|
  Tab.ok_cons (by kernel_rfl) <|
  Tab.ok_cons (by kernel_rfl) <|
  Tab.ok_cons (by kernel_rfl) <|
  Tab.ok_cons (by kernel_rfl) <|
  Tab.ok_cons (by kernel_rfl) <|
  Tab.ok_cons (by kernel_rfl) <|
  Tab.ok_cons (by kernel_rfl) <| Tab.ok_nil _
theorem zero_of {T : List (Nat × Te)} (h : (T.all fun x => x.2.z.all fun u => u.oneCell') = true) : zeroOk T := fun t e he u hu => by
  induction T with
  | nil => simp [Tab.get] at he
  | cons x r ih =>
    obtain ⟨i, e1⟩ := x
    simp only [List.all_cons, Bool.and_eq_true] at h
    unfold Tab.get at he
    split at he
    · cases he
      exact List.all_eq_true.1 h.1 u hu
    · exact ih h.2 he
theorem tab_z : zeroOk tab := zero_of (by kernel_rfl)
theorem mixed : Try.prog.follows .mixedOrders = true := by kernel_rfl
def ord3 (id : Nat) : Tr := match Nat.beq id 3 with | true => .q 0 0 (.q 2 0 (.alt 1 1 (.alt 3 1 (.q 4 3 (.q 5 3 (.q 6 0 (.alt 7 1 (.q 8 3 (.q 9 3 (.q 10 3 (.alt 11 1 (.q 12 3 (.q 13 3 (.nil))) (.nil))))) (.nil))))) (.nil)) (.nil))) | false => .nil
def ord4 (id : Nat) : Tr := match Nat.beq id 2 with | true => .q 0 0 (.q 2 0 (.alt 1 1 (.alt 3 1 (.q 4 3 (.q 5 3 (.alt 6 1 (.q 7 3 (.q 8 3 (.nil))) (.nil)))) (.nil)) (.nil))) | false => .nil
def ord5 (id : Nat) : Tr := match Nat.beq id 6 with | true => .q 0 7 (.nil) | false => match Nat.beq id 12 with | true => .q 0 3 (.q 1 3 (.q 2 3 (.q 3 0 (.q 7 3 (.q 8 3 (.q 9 3 (.q 10 0 (.alt 4 1 (.alt 5 1 (.q 6 3 (.q 11 3 (.nil))) (.nil)) (.nil))))))))) | false => .nil
def ord6 (id : Nat) : Tr := match Nat.beq id 9 with | true => .q 0 0 (.q 1 3 (.q 2 3 (.q 3 3 (.q 5 0 (.alt 4 1 (.alt 6 1 (.q 7 3 (.q 8 3 (.q 9 3 (.alt 10 1 (.alt 11 2 (.q 12 3 (.nil)) (.nil)) (.nil))))) (.alt 10 1 (.alt 6 1 (.q 7 3 (.q 8 3 (.q 9 3 (.alt 11 2 (.q 12 3 (.nil)) (.nil))))) (.nil)) (.nil))) (.alt 10 1 (.alt 4 1 (.alt 6 1 (.q 7 3 (.q 8 3 (.q 9 3 (.alt 11 2 (.q 12 3 (.nil)) (.nil))))) (.nil)) (.nil)) (.nil))))))) | false => match Nat.beq id 10 with | true => .q 0 0 (.q 2 0 (.alt 1 1 (.alt 3 1 (.q 4 3 (.q 5 3 (.alt 6 1 (.q 7 3 (.q 8 3 (.nil))) (.nil)))) (.nil)) (.nil))) | false => .nil
def ord7 (id : Nat) : Tr := match Nat.beq id 6 with | true => .q 0 3 (.q 1 0 (.q 2 3 (.q 3 0 (.q 4 3 (.q 5 0 (.q 6 3 (.q 7 3 (.q 8 0 (.alt 9 1 (.q 10 3 (.alt 11 1 (.alt 12 2 (.nil) (.nil)) (.nil))) (.alt 11 1 (.alt 9 1 (.q 10 3 (.alt 12 2 (.nil) (.nil))) (.nil)) (.nil))))))))))) | false => .nil
def ord8 (id : Nat) : Tr := match Nat.beq id 3 with | true => .q 0 3 (.q 1 0 (.q 2 3 (.q 4 3 (.q 5 0 (.q 6 3 (.alt 3 1 (.alt 7 1 (.q 8 3 (.alt 9 1 (.alt 10 2 (.nil) (.nil)) (.nil))) (.alt 9 1 (.alt 7 1 (.q 8 3 (.alt 10 2 (.nil) (.nil))) (.nil)) (.nil))) (.alt 9 1 (.alt 3 1 (.alt 7 1 (.q 8 3 (.alt 10 2 (.nil) (.nil))) (.nil)) (.nil)) (.nil)))))))) | false => match Nat.beq id 7 with | true => .q 0 3 (.q 1 0 (.q 2 3 (.q 3 0 (.q 4 3 (.q 5 3 (.q 6 3 (.q 7 0 (.q 8 3 (.q 9 0 (.q 10 3 (.q 11 3 (.q 12 3 (.q 13 0 (.q 14 3 (.alt 15 1 (.q 16 3 (.alt 17 1 (.alt 18 1 (.q 19 3 (.alt 20 2 (.nil) (.nil))) (.nil)) (.nil))) (.nil)))))))))))))))) | false => match Nat.beq id 12 with | true => .q 0 0 (.q 1 3 (.q 3 3 (.q 6 0 (.q 7 3 (.alt 2 1 (.q 4 3 (.alt 5 1 (.alt 8 1 (.alt 9 1 (.q 10 3 (.nil)) (.nil)) (.nil)) (.nil))) (.nil)))))) | false => match Nat.beq id 14 with | true => .q 0 0 (.q 2 0 (.alt 1 1 (.alt 3 1 (.q 4 3 (.q 5 3 (.q 6 0 (.q 8 0 (.alt 7 1 (.alt 9 1 (.q 10 3 (.q 11 3 (.q 12 3 (.alt 13 1 (.q 14 3 (.q 15 3 (.nil))) (.nil))))) (.nil)) (.nil)))))) (.nil)) (.nil))) | false => .nil
def ord9 (id : Nat) : Tr := match Nat.beq id 2 with | true => .q 0 0 (.q 1 3 (.q 3 0 (.q 4 3 (.alt 2 1 (.alt 5 1 (.q 6 3 (.q 7 3 (.q 8 0 (.q 10 0 (.alt 9 1 (.alt 11 1 (.q 12 3 (.q 13 3 (.nil))) (.nil)) (.nil)))))) (.nil)) (.nil))))) | false => match Nat.beq id 10 with | true => .q 0 0 (.q 1 3 (.q 2 3 (.q 3 3 (.q 4 0 (.q 6 3 (.alt 5 1 (.q 7 3 (.nil)) (.nil))))))) | false => .nil
def ord10 (id : Nat) : Tr := match Nat.beq id 3 with | true => .q 1 3 (.q 2 0 (.q 4 3 (.q 5 0 (.q 6 3 (.q 7 0 (.alt 0 1 (.alt 3 1 (.q 8 3 (.alt 9 1 (.alt 10 2 (.nil) (.nil)) (.nil))) (.alt 9 1 (.alt 3 1 (.q 8 3 (.alt 10 2 (.nil) (.nil))) (.nil)) (.nil))) (.alt 9 1 (.alt 0 1 (.alt 3 1 (.q 8 3 (.alt 10 2 (.nil) (.nil))) (.nil)) (.nil)) (.nil)))))))) | false => match Nat.beq id 4 with | true => .q 0 3 (.q 1 0 (.q 2 3 (.q 4 3 (.q 5 0 (.q 6 3 (.q 8 3 (.q 9 0 (.alt 3 1 (.alt 7 1 (.q 10 3 (.alt 11 1 (.alt 12 2 (.nil) (.nil)) (.nil))) (.alt 11 1 (.alt 7 1 (.q 10 3 (.alt 12 2 (.nil) (.nil))) (.nil)) (.nil))) (.alt 11 1 (.alt 3 1 (.alt 7 1 (.q 10 3 (.alt 12 2 (.nil) (.nil))) (.nil)) (.nil)) (.nil)))))))))) | false => match Nat.beq id 15 with | true => .q 0 0 (.q 2 0 (.alt 1 1 (.alt 3 1 (.q 4 3 (.nil)) (.nil)) (.nil))) | false => match Nat.beq id 19 with | true => .q 0 0 (.q 2 0 (.alt 1 1 (.alt 3 1 (.q 4 3 (.q 5 3 (.alt 6 1 (.q 7 3 (.q 8 3 (.nil))) (.nil)))) (.nil)) (.nil))) | false => .nil
def ord12 (id : Nat) : Tr := match Nat.beq id 12 with | true => .q 0 3 (.q 1 0 (.q 2 3 (.q 4 3 (.q 5 0 (.alt 3 1 (.alt 6 1 (.alt 7 2 (.nil) (.nil)) (.nil)) (.nil)))))) | false => .nil
def ord15 (id : Nat) : Tr := match Nat.beq id 10 with | true => .q 0 3 (.q 1 0 (.q 2 3 (.alt 3 1 (.alt 4 1 (.alt 5 1 (.q 6 3 (.alt 7 2 (.nil) (.nil))) (.nil)) (.nil)) (.nil)))) | false => match Nat.beq id 11 with | true => .q 0 3 (.q 1 0 (.q 2 3 (.alt 3 1 (.alt 4 1 (.alt 5 1 (.q 6 3 (.alt 7 2 (.nil) (.nil))) (.nil)) (.nil)) (.nil)))) | false => match Nat.beq id 17 with | true => .q 0 3 (.q 1 0 (.q 2 3 (.q 3 3 (.q 4 3 (.q 5 0 (.q 6 3 (.alt 7 1 (.q 8 3 (.alt 9 1 (.alt 10 1 (.q 11 3 (.alt 12 2 (.nil) (.nil))) (.nil)) (.nil))) (.nil)))))))) | false => .nil
def ord17 (id : Nat) : Tr := match Nat.beq id 11 with | true => .q 0 0 (.q 1 3 (.q 2 3 (.q 3 3 (.q 4 0 (.alt 5 1 (.q 6 3 (.nil)) (.nil)))))) | false => .nil
def ord19 (id : Nat) : Tr := match Nat.beq id 5 with | true => .q 0 3 (.q 1 0 (.q 2 3 (.alt 3 1 (.alt 4 1 (.alt 5 1 (.q 6 3 (.alt 7 2 (.nil) (.nil))) (.nil)) (.nil)) (.nil)))) | false => .nil
def ord20 (id : Nat) : Tr := match Nat.beq id 11 with | true => .q 0 3 (.q 1 0 (.q 2 3 (.q 3 3 (.q 4 0 (.q 5 3 (.q 6 3 (.q 7 3 (.q 8 3 (.q 9 0 (.alt 10 1 (.q 11 3 (.q 12 3 (.q 13 3 (.alt 14 1 (.alt 15 2 (.q 16 3 (.nil)) (.nil)) (.nil))))) (.alt 14 1 (.alt 10 1 (.q 11 3 (.q 12 3 (.q 13 3 (.alt 15 2 (.q 16 3 (.nil)) (.nil))))) (.nil)) (.nil)))))))))))) | false => .nil
def ord23 (id : Nat) : Tr := match Nat.beq id 7 with | true => .q 0 3 (.q 1 0 (.q 2 3 (.q 3 0 (.q 4 3 (.q 5 3 (.q 6 0 (.q 7 3 (.alt 8 1 (.alt 9 1 (.alt 10 1 (.q 11 3 (.alt 12 2 (.nil) (.nil))) (.nil)) (.nil)) (.nil))))))))) | false => .nil
def ord31 (id : Nat) : Tr := match Nat.beq id 2 with | true => .q 0 3 (.q 1 3 (.q 2 3 (.q 3 0 (.q 4 3 (.q 5 3 (.q 6 3 (.q 7 0 (.q 8 3 (.q 9 3 (.nil)))))))))) | false => match Nat.beq id 4 with | true => .q 0 3 (.q 1 3 (.q 2 3 (.q 3 0 (.q 4 3 (.q 5 3 (.q 6 3 (.q 7 0 (.q 8 3 (.q 9 3 (.q 10 0 (.q 12 3 (.alt 11 1 (.q 13 3 (.q 14 3 (.nil))) (.nil))))))))))))) | false => .nil
def ord36 (id : Nat) : Tr := match Nat.beq id 5 with | true => .q 0 3 (.q 1 0 (.q 2 3 (.q 3 3 (.alt 4 1 (.alt 5 1 (.alt 6 1 (.q 7 3 (.alt 8 2 (.nil) (.nil))) (.nil)) (.nil)) (.nil))))) | false => .nil
def ord43 (id : Nat) : Tr := match Nat.beq id 1 with | true => .q 0 0 (.q 2 0 (.alt 1 1 (.q 3 3 (.q 4 3 (.nil))) (.nil))) | false => .nil
def ord0 (_ : Nat) : Tr := .nil
def xs0 (_ : Nat) : List Nat := []
theorem cx_ok (ord : Nat → Tr) (xs : Nat → List Nat) (np : Nat) : (⟨Try.prog, tab, ord, xs, np⟩ : Cx).ok := ⟨tab_ok, tab_z, mixed⟩
end Go.Proofs.Ytlmdmmikocbmlaa.Vm
