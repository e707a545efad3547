/- The abstract machine, and the contracts of the code: part 46. -/
import Derived.Test.YthhpapbokodpdaaProg
import Derived.Test.YthhpapbokodpdaaFwNq

section
/- The table of this program's types, and that the program bears it. -/
namespace Go.Fw
set_option linter.unusedVariables false
open Go Go.Proofs

set_option maxRecDepth 20000
set_option linter.defProp false

def tbl : Tbl := [(1, ⟨.fn, 1, 8, .nilf⟩),
  (2, ⟨.int .i64, 1, 8, .int .i64 0⟩),
  (3, ⟨.int .i64, 1, 8, .int .i64 0⟩),
  (4, ⟨.bool, 1, 1, .bool false⟩),
  (5, ⟨.int .u8, 1, 1, .int .u8 0⟩),
  (9, ⟨.str, 1, 16, .str []⟩),
  (12, ⟨.int .u64, 1, 8, .int .u64 0⟩),
  (17, ⟨.ptr 149, 1, 8, .nilp⟩),
  (21, ⟨.int .i32, 1, 4, .int .i32 0⟩),
  (22, ⟨.sl 39, 1, 24, .nil⟩),
  (23, ⟨.arr 32 5, 32, 32, .ba 32 (zby 32)⟩),
  (24, ⟨.int .u32, 1, 4, .int .u32 0⟩),
  (25, ⟨.st [(0, 23), (32, 24)], 33, 36, .st [.ba 32 (zby 32), .int .u32 0]⟩),
  (26, ⟨.st [(0, 23), (32, 24)], 33, 36, .st [.ba 32 (zby 32), .int .u32 0]⟩),
  (27, ⟨.fn, 1, 8, .nilf⟩),
  (28, ⟨.fn, 1, 8, .nilf⟩),
  (29, ⟨.ptr 72, 1, 8, .nilp⟩),
  (30, ⟨.int .i64, 1, 8, .int .i64 0⟩),
  (32, ⟨.fn, 1, 8, .nilf⟩),
  (33, ⟨.fn, 1, 8, .nilf⟩),
  (34, ⟨.int .u64, 1, 8, .int .u64 0⟩),
  (35, ⟨.sl 5, 1, 24, .nil⟩),
  (36, ⟨.st [(0, 34), (1, 35)], 2, 32, .st [.int .u64 0, .nil]⟩),
  (37, ⟨.st [(0, 34), (1, 35)], 2, 32, .st [.int .u64 0, .nil]⟩),
  (38, ⟨.st [(0, 26), (33, 37), (35, 24), (36, 4)], 37, 80, .st [.st [.ba 32 (zby 32), .int .u32 0], .st [.int .u64 0, .nil], .int .u32 0, .bool false]⟩),
  (39, ⟨.st [(0, 26), (33, 37), (35, 24), (36, 4)], 37, 80, .st [.st [.ba 32 (zby 32), .int .u32 0], .st [.int .u64 0, .nil], .int .u32 0, .bool false]⟩),
  (41, ⟨.fn, 1, 8, .nilf⟩),
  (42, ⟨.fn, 1, 8, .nilf⟩),
  (43, ⟨.fn, 1, 8, .nilf⟩),
  (45, ⟨.fn, 1, 8, .nilf⟩),
  (46, ⟨.fn, 1, 8, .nilf⟩),
  (47, ⟨.fn, 1, 8, .nilf⟩),
  (48, ⟨.sl 58, 1, 24, .nil⟩),
  (49, ⟨.fn, 1, 8, .nilf⟩),
  (51, ⟨.fn, 1, 8, .nilf⟩),
  (52, ⟨.fn, 1, 8, .nilf⟩),
  (53, ⟨.fn, 1, 8, .nilf⟩),
  (54, ⟨.fn, 1, 8, .nilf⟩),
  (55, ⟨.sl 91, 1, 24, .nil⟩),
  (56, ⟨.sl 37, 1, 24, .nil⟩),
  (57, ⟨.st [(0, 24), (1, 55), (2, 56), (3, 24)], 4, 64, .st [.int .u32 0, .nil, .nil, .int .u32 0]⟩),
  (58, ⟨.st [(0, 24), (1, 55), (2, 56), (3, 24)], 4, 64, .st [.int .u32 0, .nil, .nil, .int .u32 0]⟩),
  (59, ⟨.st [(0, 3), (1, 39), (38, 58), (42, 48), (43, 24), (44, 4), (45, 22)], 46, 208, .st [.int .i64 0, .st [.st [.ba 32 (zby 32), .int .u32 0], .st [.int .u64 0, .nil], .int .u32 0, .bool false], .st [.int .u32 0, .nil, .nil, .int .u32 0], .nil, .int .u32 0, .bool false, .nil]⟩),
  (60, ⟨.st [(0, 3), (1, 39), (38, 58), (42, 48), (43, 24), (44, 4), (45, 22)], 46, 208, .st [.int .i64 0, .st [.st [.ba 32 (zby 32), .int .u32 0], .st [.int .u64 0, .nil], .int .u32 0, .bool false], .st [.int .u32 0, .nil, .nil, .int .u32 0], .nil, .int .u32 0, .bool false, .nil]⟩),
  (61, ⟨.fn, 1, 8, .nilf⟩),
  (62, ⟨.fn, 1, 8, .nilf⟩),
  (63, ⟨.st [(0, 22), (1, 30)], 2, 32, .st [.nil, .int .i64 0]⟩),
  (64, ⟨.st [(0, 22), (1, 30)], 2, 32, .st [.nil, .int .i64 0]⟩),
  (65, ⟨.fn, 1, 8, .nilf⟩),
  (66, ⟨.fn, 1, 8, .nilf⟩),
  (67, ⟨.fn, 1, 8, .nilf⟩),
  (68, ⟨.fn, 1, 8, .nilf⟩),
  (69, ⟨.fn, 1, 8, .nilf⟩),
  (70, ⟨.fn, 1, 8, .nilf⟩),
  (71, ⟨.st [(0, 22)], 1, 24, .st [.nil]⟩),
  (72, ⟨.st [(0, 22)], 1, 24, .st [.nil]⟩),
  (73, ⟨.fn, 1, 8, .nilf⟩),
  (75, ⟨.fn, 1, 8, .nilf⟩),
  (76, ⟨.fn, 1, 8, .nilf⟩),
  (77, ⟨.fn, 1, 8, .nilf⟩),
  (78, ⟨.fn, 1, 8, .nilf⟩),
  (79, ⟨.fn, 1, 8, .nilf⟩),
  (80, ⟨.fn, 1, 8, .nilf⟩),
  (81, ⟨.sl 26, 1, 24, .nil⟩),
  (82, ⟨.fn, 1, 8, .nilf⟩),
  (83, ⟨.fn, 1, 8, .nilf⟩),
  (84, ⟨.fn, 1, 8, .nilf⟩),
  (85, ⟨.fn, 1, 8, .nilf⟩),
  (86, ⟨.fn, 1, 8, .nilf⟩),
  (87, ⟨.fn, 1, 8, .nilf⟩),
  (88, ⟨.fn, 1, 8, .nilf⟩),
  (89, ⟨.sl 35, 1, 24, .nil⟩),
  (90, ⟨.st [(0, 26), (33, 24), (34, 89)], 35, 64, .st [.st [.ba 32 (zby 32), .int .u32 0], .int .u32 0, .nil]⟩),
  (91, ⟨.st [(0, 26), (33, 24), (34, 89)], 35, 64, .st [.st [.ba 32 (zby 32), .int .u32 0], .int .u32 0, .nil]⟩),
  (92, ⟨.fn, 1, 8, .nilf⟩),
  (93, ⟨.fn, 1, 8, .nilf⟩),
  (94, ⟨.fn, 1, 8, .nilf⟩),
  (95, ⟨.fn, 1, 8, .nilf⟩),
  (96, ⟨.fn, 1, 8, .nilf⟩),
  (97, ⟨.fn, 1, 8, .nilf⟩),
  (98, ⟨.fn, 1, 8, .nilf⟩),
  (99, ⟨.fn, 1, 8, .nilf⟩),
  (100, ⟨.fn, 1, 8, .nilf⟩),
  (101, ⟨.fn, 1, 8, .nilf⟩),
  (102, ⟨.int .u64, 1, 8, .int .u64 0⟩),
  (103, ⟨.fn, 1, 8, .nilf⟩),
  (104, ⟨.fn, 1, 8, .nilf⟩),
  (105, ⟨.fn, 1, 8, .nilf⟩),
  (106, ⟨.fn, 1, 8, .nilf⟩),
  (107, ⟨.fn, 1, 8, .nilf⟩),
  (108, ⟨.fn, 1, 8, .nilf⟩),
  (109, ⟨.fn, 1, 8, .nilf⟩),
  (110, ⟨.fn, 1, 8, .nilf⟩),
  (111, ⟨.fn, 1, 8, .nilf⟩),
  (112, ⟨.fn, 1, 8, .nilf⟩),
  (113, ⟨.fn, 1, 8, .nilf⟩),
  (114, ⟨.fn, 1, 8, .nilf⟩),
  (115, ⟨.fn, 1, 8, .nilf⟩),
  (116, ⟨.fn, 1, 8, .nilf⟩),
  (117, ⟨.ptr 130, 1, 8, .nilp⟩),
  (118, ⟨.fn, 1, 8, .nilf⟩),
  (119, ⟨.fn, 1, 8, .nilf⟩),
  (120, ⟨.fn, 1, 8, .nilf⟩),
  (121, ⟨.fn, 1, 8, .nilf⟩),
  (122, ⟨.fn, 1, 8, .nilf⟩),
  (123, ⟨.fn, 1, 8, .nilf⟩),
  (124, ⟨.int .u16, 1, 2, .int .u16 0⟩),
  (125, ⟨.fn, 1, 8, .nilf⟩),
  (126, ⟨.arr 8 24, 8, 32, .ar 8 1 (List.replicate 8 (.int .u32 0))⟩),
  (127, ⟨.arr 8 24, 8, 32, .ar 8 1 (List.replicate 8 (.int .u32 0))⟩),
  (128, ⟨.fn, 1, 8, .nilf⟩),
  (129, ⟨.st [(0, 127), (8, 35), (9, 34)], 10, 64, .st [.ar 8 1 (List.replicate 8 (.int .u32 0)), .nil, .int .u64 0]⟩),
  (130, ⟨.st [(0, 127), (8, 35), (9, 34)], 10, 64, .st [.ar 8 1 (List.replicate 8 (.int .u32 0)), .nil, .int .u64 0]⟩),
  (131, ⟨.ptr 127, 1, 8, .nilp⟩),
  (132, ⟨.arr 64 24, 64, 256, .ar 64 1 (zar 64 (.int .u32 0))⟩),
  (133, ⟨.fn, 1, 8, .nilf⟩),
  (134, ⟨.fn, 1, 8, .nilf⟩),
  (135, ⟨.fn, 1, 8, .nilf⟩),
  (136, ⟨.fn, 1, 8, .nilf⟩),
  (145, ⟨.ptr 5, 1, 8, .nilp⟩),
  (150, ⟨.fn, 1, 8, .nilf⟩)]

def E : Env := envOf tbl

theorem tbl_ok : tblB Try.prog tbl = true := by kernel_rfl

theorem E_ok : EnvOk Try.prog E := envOf_ok tbl_ok

theorem B_ok : ByteOk E := byteOk_of (by kernel_rfl)

theorem E1 : E 1 = ⟨.fn, 1, 8, .nilf⟩ := rfl
theorem E2 : E 2 = ⟨.int .i64, 1, 8, .int .i64 0⟩ := rfl
theorem E3 : E 3 = ⟨.int .i64, 1, 8, .int .i64 0⟩ := rfl
theorem E4 : E 4 = ⟨.bool, 1, 1, .bool false⟩ := rfl
theorem E5 : E 5 = ⟨.int .u8, 1, 1, .int .u8 0⟩ := rfl
theorem E9 : E 9 = ⟨.str, 1, 16, .str []⟩ := rfl
theorem E12 : E 12 = ⟨.int .u64, 1, 8, .int .u64 0⟩ := rfl
theorem E17 : E 17 = ⟨.ptr 149, 1, 8, .nilp⟩ := rfl
theorem E21 : E 21 = ⟨.int .i32, 1, 4, .int .i32 0⟩ := rfl
theorem E22 : E 22 = ⟨.sl 39, 1, 24, .nil⟩ := rfl
theorem E23 : E 23 = ⟨.arr 32 5, 32, 32, .ba 32 (zby 32)⟩ := rfl
theorem E24 : E 24 = ⟨.int .u32, 1, 4, .int .u32 0⟩ := rfl
theorem E25 : E 25 = ⟨.st [(0, 23), (32, 24)], 33, 36, .st [.ba 32 (zby 32), .int .u32 0]⟩ := rfl
theorem E26 : E 26 = ⟨.st [(0, 23), (32, 24)], 33, 36, .st [.ba 32 (zby 32), .int .u32 0]⟩ := rfl
theorem E27 : E 27 = ⟨.fn, 1, 8, .nilf⟩ := rfl
theorem E28 : E 28 = ⟨.fn, 1, 8, .nilf⟩ := rfl
theorem E29 : E 29 = ⟨.ptr 72, 1, 8, .nilp⟩ := rfl
theorem E30 : E 30 = ⟨.int .i64, 1, 8, .int .i64 0⟩ := rfl
theorem E32 : E 32 = ⟨.fn, 1, 8, .nilf⟩ := rfl
theorem E33 : E 33 = ⟨.fn, 1, 8, .nilf⟩ := rfl
theorem E34 : E 34 = ⟨.int .u64, 1, 8, .int .u64 0⟩ := rfl
theorem E35 : E 35 = ⟨.sl 5, 1, 24, .nil⟩ := rfl
theorem E36 : E 36 = ⟨.st [(0, 34), (1, 35)], 2, 32, .st [.int .u64 0, .nil]⟩ := rfl
theorem E37 : E 37 = ⟨.st [(0, 34), (1, 35)], 2, 32, .st [.int .u64 0, .nil]⟩ := rfl
theorem E38 : E 38 = ⟨.st [(0, 26), (33, 37), (35, 24), (36, 4)], 37, 80, .st [.st [.ba 32 (zby 32), .int .u32 0], .st [.int .u64 0, .nil], .int .u32 0, .bool false]⟩ := rfl
theorem E39 : E 39 = ⟨.st [(0, 26), (33, 37), (35, 24), (36, 4)], 37, 80, .st [.st [.ba 32 (zby 32), .int .u32 0], .st [.int .u64 0, .nil], .int .u32 0, .bool false]⟩ := rfl
theorem E41 : E 41 = ⟨.fn, 1, 8, .nilf⟩ := rfl
theorem E42 : E 42 = ⟨.fn, 1, 8, .nilf⟩ := rfl
theorem E43 : E 43 = ⟨.fn, 1, 8, .nilf⟩ := rfl
theorem E45 : E 45 = ⟨.fn, 1, 8, .nilf⟩ := rfl
theorem E46 : E 46 = ⟨.fn, 1, 8, .nilf⟩ := rfl
theorem E47 : E 47 = ⟨.fn, 1, 8, .nilf⟩ := rfl
theorem E48 : E 48 = ⟨.sl 58, 1, 24, .nil⟩ := rfl
theorem E49 : E 49 = ⟨.fn, 1, 8, .nilf⟩ := rfl
theorem E51 : E 51 = ⟨.fn, 1, 8, .nilf⟩ := rfl
theorem E52 : E 52 = ⟨.fn, 1, 8, .nilf⟩ := rfl
theorem E53 : E 53 = ⟨.fn, 1, 8, .nilf⟩ := rfl
theorem E54 : E 54 = ⟨.fn, 1, 8, .nilf⟩ := rfl
theorem E55 : E 55 = ⟨.sl 91, 1, 24, .nil⟩ := rfl
theorem E56 : E 56 = ⟨.sl 37, 1, 24, .nil⟩ := rfl
theorem E57 : E 57 = ⟨.st [(0, 24), (1, 55), (2, 56), (3, 24)], 4, 64, .st [.int .u32 0, .nil, .nil, .int .u32 0]⟩ := rfl
theorem E58 : E 58 = ⟨.st [(0, 24), (1, 55), (2, 56), (3, 24)], 4, 64, .st [.int .u32 0, .nil, .nil, .int .u32 0]⟩ := rfl
theorem E59 : E 59 = ⟨.st [(0, 3), (1, 39), (38, 58), (42, 48), (43, 24), (44, 4), (45, 22)], 46, 208, .st [.int .i64 0, .st [.st [.ba 32 (zby 32), .int .u32 0], .st [.int .u64 0, .nil], .int .u32 0, .bool false], .st [.int .u32 0, .nil, .nil, .int .u32 0], .nil, .int .u32 0, .bool false, .nil]⟩ := rfl
theorem E60 : E 60 = ⟨.st [(0, 3), (1, 39), (38, 58), (42, 48), (43, 24), (44, 4), (45, 22)], 46, 208, .st [.int .i64 0, .st [.st [.ba 32 (zby 32), .int .u32 0], .st [.int .u64 0, .nil], .int .u32 0, .bool false], .st [.int .u32 0, .nil, .nil, .int .u32 0], .nil, .int .u32 0, .bool false, .nil]⟩ := rfl
theorem E61 : E 61 = ⟨.fn, 1, 8, .nilf⟩ := rfl
theorem E62 : E 62 = ⟨.fn, 1, 8, .nilf⟩ := rfl
theorem E63 : E 63 = ⟨.st [(0, 22), (1, 30)], 2, 32, .st [.nil, .int .i64 0]⟩ := rfl
theorem E64 : E 64 = ⟨.st [(0, 22), (1, 30)], 2, 32, .st [.nil, .int .i64 0]⟩ := rfl
theorem E65 : E 65 = ⟨.fn, 1, 8, .nilf⟩ := rfl
theorem E66 : E 66 = ⟨.fn, 1, 8, .nilf⟩ := rfl
theorem E67 : E 67 = ⟨.fn, 1, 8, .nilf⟩ := rfl
theorem E68 : E 68 = ⟨.fn, 1, 8, .nilf⟩ := rfl
theorem E69 : E 69 = ⟨.fn, 1, 8, .nilf⟩ := rfl
theorem E70 : E 70 = ⟨.fn, 1, 8, .nilf⟩ := rfl
theorem E71 : E 71 = ⟨.st [(0, 22)], 1, 24, .st [.nil]⟩ := rfl
theorem E72 : E 72 = ⟨.st [(0, 22)], 1, 24, .st [.nil]⟩ := rfl
theorem E73 : E 73 = ⟨.fn, 1, 8, .nilf⟩ := rfl
theorem E75 : E 75 = ⟨.fn, 1, 8, .nilf⟩ := rfl
theorem E76 : E 76 = ⟨.fn, 1, 8, .nilf⟩ := rfl
theorem E77 : E 77 = ⟨.fn, 1, 8, .nilf⟩ := rfl
theorem E78 : E 78 = ⟨.fn, 1, 8, .nilf⟩ := rfl
theorem E79 : E 79 = ⟨.fn, 1, 8, .nilf⟩ := rfl
theorem E80 : E 80 = ⟨.fn, 1, 8, .nilf⟩ := rfl
theorem E81 : E 81 = ⟨.sl 26, 1, 24, .nil⟩ := rfl
theorem E82 : E 82 = ⟨.fn, 1, 8, .nilf⟩ := rfl
theorem E83 : E 83 = ⟨.fn, 1, 8, .nilf⟩ := rfl
theorem E84 : E 84 = ⟨.fn, 1, 8, .nilf⟩ := rfl
theorem E85 : E 85 = ⟨.fn, 1, 8, .nilf⟩ := rfl
theorem E86 : E 86 = ⟨.fn, 1, 8, .nilf⟩ := rfl
theorem E87 : E 87 = ⟨.fn, 1, 8, .nilf⟩ := rfl
theorem E88 : E 88 = ⟨.fn, 1, 8, .nilf⟩ := rfl
theorem E89 : E 89 = ⟨.sl 35, 1, 24, .nil⟩ := rfl
theorem E90 : E 90 = ⟨.st [(0, 26), (33, 24), (34, 89)], 35, 64, .st [.st [.ba 32 (zby 32), .int .u32 0], .int .u32 0, .nil]⟩ := rfl
theorem E91 : E 91 = ⟨.st [(0, 26), (33, 24), (34, 89)], 35, 64, .st [.st [.ba 32 (zby 32), .int .u32 0], .int .u32 0, .nil]⟩ := rfl
theorem E92 : E 92 = ⟨.fn, 1, 8, .nilf⟩ := rfl
theorem E93 : E 93 = ⟨.fn, 1, 8, .nilf⟩ := rfl
theorem E94 : E 94 = ⟨.fn, 1, 8, .nilf⟩ := rfl
theorem E95 : E 95 = ⟨.fn, 1, 8, .nilf⟩ := rfl
theorem E96 : E 96 = ⟨.fn, 1, 8, .nilf⟩ := rfl
theorem E97 : E 97 = ⟨.fn, 1, 8, .nilf⟩ := rfl
theorem E98 : E 98 = ⟨.fn, 1, 8, .nilf⟩ := rfl
theorem E99 : E 99 = ⟨.fn, 1, 8, .nilf⟩ := rfl
theorem E100 : E 100 = ⟨.fn, 1, 8, .nilf⟩ := rfl
theorem E101 : E 101 = ⟨.fn, 1, 8, .nilf⟩ := rfl
theorem E102 : E 102 = ⟨.int .u64, 1, 8, .int .u64 0⟩ := rfl
theorem E103 : E 103 = ⟨.fn, 1, 8, .nilf⟩ := rfl
theorem E104 : E 104 = ⟨.fn, 1, 8, .nilf⟩ := rfl
theorem E105 : E 105 = ⟨.fn, 1, 8, .nilf⟩ := rfl
theorem E106 : E 106 = ⟨.fn, 1, 8, .nilf⟩ := rfl
theorem E107 : E 107 = ⟨.fn, 1, 8, .nilf⟩ := rfl
theorem E108 : E 108 = ⟨.fn, 1, 8, .nilf⟩ := rfl
theorem E109 : E 109 = ⟨.fn, 1, 8, .nilf⟩ := rfl
theorem E110 : E 110 = ⟨.fn, 1, 8, .nilf⟩ := rfl
theorem E111 : E 111 = ⟨.fn, 1, 8, .nilf⟩ := rfl
theorem E112 : E 112 = ⟨.fn, 1, 8, .nilf⟩ := rfl
theorem E113 : E 113 = ⟨.fn, 1, 8, .nilf⟩ := rfl
theorem E114 : E 114 = ⟨.fn, 1, 8, .nilf⟩ := rfl
theorem E115 : E 115 = ⟨.fn, 1, 8, .nilf⟩ := rfl
theorem E116 : E 116 = ⟨.fn, 1, 8, .nilf⟩ := rfl
theorem E117 : E 117 = ⟨.ptr 130, 1, 8, .nilp⟩ := rfl
theorem E118 : E 118 = ⟨.fn, 1, 8, .nilf⟩ := rfl
theorem E119 : E 119 = ⟨.fn, 1, 8, .nilf⟩ := rfl
theorem E120 : E 120 = ⟨.fn, 1, 8, .nilf⟩ := rfl
theorem E121 : E 121 = ⟨.fn, 1, 8, .nilf⟩ := rfl
theorem E122 : E 122 = ⟨.fn, 1, 8, .nilf⟩ := rfl
theorem E123 : E 123 = ⟨.fn, 1, 8, .nilf⟩ := rfl
theorem E124 : E 124 = ⟨.int .u16, 1, 2, .int .u16 0⟩ := rfl
theorem E125 : E 125 = ⟨.fn, 1, 8, .nilf⟩ := rfl
theorem E126 : E 126 = ⟨.arr 8 24, 8, 32, .ar 8 1 (List.replicate 8 (.int .u32 0))⟩ := rfl
theorem E127 : E 127 = ⟨.arr 8 24, 8, 32, .ar 8 1 (List.replicate 8 (.int .u32 0))⟩ := rfl
theorem E128 : E 128 = ⟨.fn, 1, 8, .nilf⟩ := rfl
theorem E129 : E 129 = ⟨.st [(0, 127), (8, 35), (9, 34)], 10, 64, .st [.ar 8 1 (List.replicate 8 (.int .u32 0)), .nil, .int .u64 0]⟩ := rfl
theorem E130 : E 130 = ⟨.st [(0, 127), (8, 35), (9, 34)], 10, 64, .st [.ar 8 1 (List.replicate 8 (.int .u32 0)), .nil, .int .u64 0]⟩ := rfl
theorem E131 : E 131 = ⟨.ptr 127, 1, 8, .nilp⟩ := rfl
theorem E132 : E 132 = ⟨.arr 64 24, 64, 256, .ar 64 1 (zar 64 (.int .u32 0))⟩ := rfl
theorem E133 : E 133 = ⟨.fn, 1, 8, .nilf⟩ := rfl
theorem E134 : E 134 = ⟨.fn, 1, 8, .nilf⟩ := rfl
theorem E135 : E 135 = ⟨.fn, 1, 8, .nilf⟩ := rfl
theorem E136 : E 136 = ⟨.fn, 1, 8, .nilf⟩ := rfl
theorem E145 : E 145 = ⟨.ptr 5, 1, 8, .nilp⟩ := rfl
theorem E150 : E 150 = ⟨.fn, 1, 8, .nilf⟩ := rfl
def ES := And.intro @E1 <| And.intro @E2 <| And.intro @E3 <| And.intro @E4 <| And.intro @E5 <| And.intro @E9 <| And.intro @E12 <| And.intro @E17 <| And.intro @E21 <| And.intro @E22 <| And.intro @E23 <| And.intro @E24 <| And.intro @E25 <| And.intro @E26 <| And.intro @E27 <| And.intro @E28 <| And.intro @E29 <| And.intro @E30 <| And.intro @E32 <| And.intro @E33 <| And.intro @E34 <| And.intro @E35 <| And.intro @E36 <| And.intro @E37 <| And.intro @E38 <| And.intro @E39 <| And.intro @E41 <| And.intro @E42 <| And.intro @E43 <| And.intro @E45 <| And.intro @E46 <| And.intro @E47 <| And.intro @E48 <| And.intro @E49 <| And.intro @E51 <| And.intro @E52 <| And.intro @E53 <| And.intro @E54 <| And.intro @E55 <| And.intro @E56 <| And.intro @E57 <| And.intro @E58 <| And.intro @E59 <| And.intro @E60 <| And.intro @E61 <| And.intro @E62 <| And.intro @E63 <| And.intro @E64 <| And.intro @E65 <| And.intro @E66 <| And.intro @E67 <| And.intro @E68 <| And.intro @E69 <| And.intro @E70 <| And.intro @E71 <| And.intro @E72 <| And.intro @E73 <| And.intro @E75 <| And.intro @E76 <| And.intro @E77 <| And.intro @E78 <| And.intro @E79 <| And.intro @E80 <| And.intro @E81 <| And.intro @E82 <| And.intro @E83 <| And.intro @E84 <| And.intro @E85 <| And.intro @E86 <| And.intro @E87 <| And.intro @E88 <| And.intro @E89 <| And.intro @E90 <| And.intro @E91 <| And.intro @E92 <| And.intro @E93 <| And.intro @E94 <| And.intro @E95 <| And.intro @E96 <| And.intro @E97 <| And.intro @E98 <| And.intro @E99 <| And.intro @E100 <| And.intro @E101 <| And.intro @E102 <| And.intro @E103 <| And.intro @E104 <| And.intro @E105 <| And.intro @E106 <| And.intro @E107 <| And.intro @E108 <| And.intro @E109 <| And.intro @E110 <| And.intro @E111 <| And.intro @E112 <| And.intro @E113 <| And.intro @E114 <| And.intro @E115 <| And.intro @E116 <| And.intro @E117 <| And.intro @E118 <| And.intro @E119 <| And.intro @E120 <| And.intro @E121 <| And.intro @E122 <| And.intro @E123 <| And.intro @E124 <| And.intro @E125 <| And.intro @E126 <| And.intro @E127 <| And.intro @E128 <| And.intro @E129 <| And.intro @E130 <| And.intro @E131 <| And.intro @E132 <| And.intro @E133 <| And.intro @E134 <| And.intro @E135 <| And.intro @E136 <| And.intro @E145 <| @E150

def eqq : List TypeId := [9, 23, 25, 26, 126, 127, 132]

theorem X_ok : XOk Try.prog E eqq := ⟨E_ok, B_ok, fitOk_of (by kernel_rfl), eqsB_ok (by kernel_rfl)⟩

def W := And.intro FWA ES

theorem mix : Try.prog.follows .mixedOrders = true := by kernel_rfl

/-! ### Steps, with the program's table. -/

/-- What a function's walk needs: its calls' contracts, the slots that live, the orders of its drawn regions. -/
structure CT (gl : GCalls) (keep : List Nat) (ds : List (Nat × List Info)) : Prop where
  cl : GClOk Try.prog gl

def lkD (id : Nat) : List (Nat × List Info) → Option (List Info)
  | [] => none
  | (i, l) :: r => if i = id then some l else lkD id r

section
variable {gl : GCalls} {keep : List Nat} {ds : List (Nat × List Info)} {kp N id : Nat} {l : List Oper} {Q : Exit → AS → Prop} {S S' : AS}

theorem AWP.rK (ct : CT gl keep ds) (h : gopsP E eqq gl N keep l S = some S') (hQ : Q .normal S') : AWP kp Try.prog N (.region id l.toArray false) Q S := AWP.greg X_ok ct.cl keep h hQ
theorem AWP.dK (ct : CT gl keep ds) {fs : List Info} (hl : lkD id ds = some fs) (hdep : dOk l fs = true) (h : drunP E eqq gl N keep l fs S = some S') (hQ : Q .normal S') : AWP kp Try.prog N (.region id l.toArray true) Q S :=
  AWP.gdraw X_ok ct.cl keep mix fs hdep h hQ
theorem AWP.cT {cd : Operand} {x y : Code} {b : Bool} (hc : ev S.s cd = .t (.bool b)) (hb : b = true) (ht : AWP kp Try.prog N x Q S) : AWP kp Try.prog N (.cond cd x y) Q S := AWP.condT (by rw [hc, hb]) ht
theorem AWP.cF {cd : Operand} {x y : Code} {b : Bool} (hc : ev S.s cd = .t (.bool b)) (hb : b = false) (hf : AWP kp Try.prog N y Q S) : AWP kp Try.prog N (.cond cd x y) Q S := AWP.condF (by rw [hc, hb]) hf
end

def BL := And.intro @decide_eq_true_eq <| And.intro @decide_eq_false_iff_not <| And.intro @Bool.not_eq_true' <| And.intro @Bool.not_eq_false' <| And.intro @Bool.and_eq_true <| And.intro @Bool.or_eq_true <| And.intro @Bool.or_eq_false_iff <| And.intro @Bool.and_eq_false_iff <| @ne_eq.{1}

/-- A region's end, reckoned. -/
theorem Ev {F : Prop} (hF : F) {α : Type} {a b : α} (h : F → a = b := by (intro hF; (repeat (first | simp only [W, eqq, ↓reduceIte, Nat.reduceEqDiff, Nat.reduceLT, Nat.reduceLeDiff, Nat.reduceAdd, Nat.reduceMul, Nat.reduceSub, Nat.reduceBEq, Int.reduceLE, Int.reduceLT, Int.reduceNeg, Int.reduceToNat, Int.reduceEq, Int.reduceBEq, Int.reduceBNe, Nat.reduceBNe, bne_self_eq_false, reduceCtorEq, gt_iff_lt, ge_iff_le, hF] | (rewrite [if_pos]; rotate_left; focus (first | omega | (simp only [LN, hF]; omega) | (refine ⟨?_, ?_⟩ <;> (simp only [LN, hF] <;> omega)))) | (rewrite [if_neg]; rotate_left; focus (first | omega | (simp only [LN, hF]; omega) | (refine ⟨?_, ?_⟩ <;> (simp only [LN, hF] <;> omega)))) | simp (disch := omega) only [wrap_i64, wrap_u64])); with_reducible rfl)) : a = b := h hF

structure KB (B : Prop) : Prop where
  out : B

/-- One step. -/
theorem St {F : Prop} (hF : F) {gl : GCalls} {keep : List Nat} {ds : List (Nat × List Info)} (ct : CT gl keep ds) {A B : Prop} (k : B) (h : F → CT gl keep ds → KB B → A := by
  (intro hF ct hk; (first
    | refine AWP.seq ?_
    | refine AWP.block ?_
    | (refine AWP.rK ct (Ev hF) ?_; try show AWP _ _ _ _ _ _)
    | (refine AWP.condT ?_ ?_; focus (simp only [W, eqq, ↓reduceIte, Nat.reduceEqDiff, Nat.reduceLT, Nat.reduceLeDiff, Nat.reduceAdd, Nat.reduceMul, Nat.reduceSub, Nat.reduceBEq, Int.reduceLE, Int.reduceLT, Int.reduceNeg, Int.reduceToNat, Int.reduceEq, Int.reduceBEq, Int.reduceBNe, Nat.reduceBNe, bne_self_eq_false, reduceCtorEq, gt_iff_lt, ge_iff_le, hF]; done))
    | (refine AWP.condF ?_ ?_; focus (simp only [W, eqq, ↓reduceIte, Nat.reduceEqDiff, Nat.reduceLT, Nat.reduceLeDiff, Nat.reduceAdd, Nat.reduceMul, Nat.reduceSub, Nat.reduceBEq, Int.reduceLE, Int.reduceLT, Int.reduceNeg, Int.reduceToNat, Int.reduceEq, Int.reduceBEq, Int.reduceBNe, Nat.reduceBNe, bne_self_eq_false, reduceCtorEq, gt_iff_lt, ge_iff_le, hF]; done))
    | (refine AWP.cT (by simp only [W, eqq, ↓reduceIte, Nat.reduceEqDiff, Nat.reduceLT, Nat.reduceLeDiff, Nat.reduceAdd, Nat.reduceMul, Nat.reduceSub, Nat.reduceBEq, Int.reduceLE, Int.reduceLT, Int.reduceNeg, Int.reduceToNat, Int.reduceEq, Int.reduceBEq, Int.reduceBNe, Nat.reduceBNe, bne_self_eq_false, reduceCtorEq, gt_iff_lt, ge_iff_le, hF]; with_reducible rfl) (by simp only [BL, beq_iff_eq, bne_iff_ne, beq_eq_false_iff_ne, bne_eq_false_iff_eq]; omega) ?_)
    | (refine AWP.cF (by simp only [W, eqq, ↓reduceIte, Nat.reduceEqDiff, Nat.reduceLT, Nat.reduceLeDiff, Nat.reduceAdd, Nat.reduceMul, Nat.reduceSub, Nat.reduceBEq, Int.reduceLE, Int.reduceLT, Int.reduceNeg, Int.reduceToNat, Int.reduceEq, Int.reduceBEq, Int.reduceBNe, Nat.reduceBNe, bne_self_eq_false, reduceCtorEq, gt_iff_lt, ge_iff_le, hF]; with_reducible rfl) (by simp only [BL, beq_iff_eq, bne_iff_ne, beq_eq_false_iff_ne, bne_eq_false_iff_eq]; omega) ?_)
    | (refine AWP.skip ?_; try show AWP _ _ _ _ _ _)
    | (refine AWP.exit ?_; try show AWP _ _ _ _ _ _)
    | (refine AWP.dK ct (by rfl) (by kernel_rfl) (Ev hF) ?_; try show AWP _ _ _ _ _ _)); exact hk.out)) : A := h hF ct ⟨k⟩

/-- A state told anew. -/
theorem Wt {F : Prop} (hF : F) (ks ids : List Nat) {kp N : Nat} {S S' : AS} (hok : okIds kp ids := by first | decide | (show okIds 0 _; decide) | (show okIds 1 _; decide) | (show okIds 2 _; decide) | (show okIds 3 _; decide) | (show okIds 4 _; decide) | (show okIds 5 _; decide) | (show okIds 6 _; decide) | (show okIds 7 _; decide) | (show okIds 8 _; decide))
    (h : F → S.norm ks ids = S' := by (intro hF; first | (simp only [W, eqq, ↓reduceIte, Nat.reduceEqDiff, Nat.reduceLT, Nat.reduceLeDiff, Nat.reduceAdd, Nat.reduceMul, Nat.reduceSub, Nat.reduceBEq, Int.reduceLE, Int.reduceLT, Int.reduceNeg, Int.reduceToNat, Int.reduceEq, Int.reduceBEq, Int.reduceBNe, Nat.reduceBNe, bne_self_eq_false, reduceCtorEq, gt_iff_lt, ge_iff_le, hF]; done) | (simp only [W, eqq, ↓reduceIte, Nat.reduceEqDiff, Nat.reduceLT, Nat.reduceLeDiff, Nat.reduceAdd, Nat.reduceMul, Nat.reduceSub, Nat.reduceBEq, Int.reduceLE, Int.reduceLT, Int.reduceNeg, Int.reduceToNat, Int.reduceEq, Int.reduceBEq, Int.reduceBNe, Nat.reduceBNe, bne_self_eq_false, reduceCtorEq, gt_iff_lt, ge_iff_le, hF]; rfl) | (simp only [W, eqq, ↓reduceIte, Nat.reduceEqDiff, Nat.reduceLT, Nat.reduceLeDiff, Nat.reduceAdd, Nat.reduceMul, Nat.reduceSub, Nat.reduceBEq, Int.reduceLE, Int.reduceLT, Int.reduceNeg, Int.reduceToNat, Int.reduceEq, Int.reduceBEq, Int.reduceBNe, Nat.reduceBNe, bne_self_eq_false, reduceCtorEq, gt_iff_lt, ge_iff_le, hF, Int.natCast_add, Int.cast_ofNat_Int]; done))) : Weak kp N S S' := Weak.to ks ids hok (h hF)

/-- The end of a walk. -/
theorem Fin {F : Prop} (hF : F) (fz ids : List Nat) {rs : List RS} {kp : Nat} {H : List Blk} {r : AV} {e : Exit} {S : AS} (he : e = .normal ∨ e = .ret := by first | exact .inl rfl | exact .inr rfl) (hok : okIds kp ids := by first | decide | (show okIds 0 _; decide) | (show okIds 1 _; decide) | (show okIds 2 _; decide) | (show okIds 3 _; decide) | (show okIds 4 _; decide) | (show okIds 5 _; decide) | (show okIds 6 _; decide) | (show okIds 7 _; decide) | (show okIds 8 _; decide))
    (h : F → cres E rs (freezeOnes S.H fz) S.s ids = some (H, r) := by (intro hF; first | (simp only [cres, resVals, RS.val, thawV, freezeOnes, freezeOne, renH, one, AV.ren, AV.renL, Blk.ren, W, eqq, ↓reduceIte, Nat.reduceEqDiff, Nat.reduceLT, Nat.reduceLeDiff, Nat.reduceAdd, Nat.reduceMul, Nat.reduceSub, Nat.reduceBEq, Int.reduceLE, Int.reduceLT, Int.reduceNeg, Int.reduceToNat, Int.reduceEq, Int.reduceBEq, Int.reduceBNe, Nat.reduceBNe, bne_self_eq_false, reduceCtorEq, gt_iff_lt, ge_iff_le, hF]; done) | (simp only [cres, resVals, RS.val, thawV, freezeOnes, freezeOne, renH, one, AV.ren, AV.renL, Blk.ren, W, eqq, ↓reduceIte, Nat.reduceEqDiff, Nat.reduceLT, Nat.reduceLeDiff, Nat.reduceAdd, Nat.reduceMul, Nat.reduceSub, Nat.reduceBEq, Int.reduceLE, Int.reduceLT, Int.reduceNeg, Int.reduceToNat, Int.reduceEq, Int.reduceBEq, Int.reduceBNe, Nat.reduceBNe, bne_self_eq_false, reduceCtorEq, gt_iff_lt, ge_iff_le, hF]; rfl))) : cretQ E rs kp H r e S := ⟨he, fz, ids, hok, h hF⟩

/-- nil in a box, taken for an empty row. -/
theorem Wn {kp N : Nat} {S : AS} {v v' : AV} (i : Nat) (p : List Nat) (o : Nat) (B : T) (hi : S.H[i]? = some (.bx v) := by rfl) (hg : AV.get v p = some (.t .nil) := by (simp only [W, eqq, ↓reduceIte, Nat.reduceEqDiff, Nat.reduceLT, Nat.reduceLeDiff, Nat.reduceAdd, Nat.reduceMul, Nat.reduceSub, Nat.reduceBEq, Int.reduceLE, Int.reduceLT, Int.reduceNeg, Int.reduceToNat, Int.reduceEq, Int.reduceBEq, Int.reduceBNe, Nat.reduceBNe, bne_self_eq_false, reduceCtorEq, gt_iff_lt, ge_iff_le])) (ho : AV.off v p = some o := by (simp only [W, eqq, ↓reduceIte, Nat.reduceEqDiff, Nat.reduceLT, Nat.reduceLeDiff, Nat.reduceAdd, Nat.reduceMul, Nat.reduceSub, Nat.reduceBEq, Int.reduceLE, Int.reduceLT, Int.reduceNeg, Int.reduceToNat, Int.reduceEq, Int.reduceBEq, Int.reduceBNe, Nat.reduceBNe, bne_self_eq_false, reduceCtorEq, gt_iff_lt, ge_iff_le])) (hs' : AV.set v p (.t B) = some v' := by (simp only [W, eqq, ↓reduceIte, Nat.reduceEqDiff, Nat.reduceLT, Nat.reduceLeDiff, Nat.reduceAdd, Nat.reduceMul, Nat.reduceSub, Nat.reduceBEq, Int.reduceLE, Int.reduceLT, Int.reduceNeg, Int.reduceToNat, Int.reduceEq, Int.reduceBEq, Int.reduceBNe, Nat.reduceBNe, bne_self_eq_false, reduceCtorEq, gt_iff_lt, ge_iff_le]; rfl))
    (hB : B = .by [] ∨ ∃ sz, 0 < sz ∧ B = .sq sz [] := by first | exact .inl rfl | exact .inr ⟨_, by decide, rfl⟩) : Weak kp N S ⟨S.s, S.H.set i (.bx v')⟩ := Weak.nilBx i p o B hi hg ho hs' hB
/-- A nil slot, taken for an empty row of the call's own. -/
theorem Wo {kp N : Nat} {S : AS} (i : Nat) (B : Blk) (hi : lk i S.s = .t .nil := by (simp only [W, eqq, ↓reduceIte, Nat.reduceEqDiff, Nat.reduceLT, Nat.reduceLeDiff, Nat.reduceAdd, Nat.reduceMul, Nat.reduceSub, Nat.reduceBEq, Int.reduceLE, Int.reduceLT, Int.reduceNeg, Int.reduceToNat, Int.reduceEq, Int.reduceBEq, Int.reduceBNe, Nat.reduceBNe, bne_self_eq_false, reduceCtorEq, gt_iff_lt, ge_iff_le])) (hB : B = .by [] ∨ ∃ sz, 0 < sz ∧ B = .sq sz [] := by first | exact .inl rfl | exact .inr ⟨_, by decide, rfl⟩) : Weak kp N S ⟨(i, .own S.H.length) :: S.s, S.H ++ [B]⟩ := Weak.own i B hi hB
/-- A comparison with nil, at a region's end. -/
theorem AWP.nK {gl : GCalls} {keep : List Nat} {ds : List (Nat × List Info)} {kp N id d j : Nat} {l : List Oper} {o : Oper} {t t' e : TypeId} {b : List UInt8} {Q : Exit → AS → Prop} {S S1 : AS} {F : Prop} (hF : F) (ct : CT gl keep ds)
    (hQ : ∀ r : Bool, (r = true → b = []) → Q .normal ⟨prune keep ((d, .t (.bool r)) :: S1.s), S1.H⟩)
    (hop : o.op = .binOp .eql t (.tmp j) (.const (.slice none 0 0)) t' := by rfl) (hd : o.dst = some d := by rfl) (hdN : d < N := by decide) (ht : (E t).ty = .sl e := by rfl)
    (h : F → gops E eqq gl N (l ++ [o]) l S = some S1 := by (intro hF; simp only [W, eqq, ↓reduceIte, Nat.reduceEqDiff, Nat.reduceLT, Nat.reduceLeDiff, Nat.reduceAdd, Nat.reduceMul, Nat.reduceSub, Nat.reduceBEq, Int.reduceLE, Int.reduceLT, Int.reduceNeg, Int.reduceToNat, Int.reduceEq, Int.reduceBEq, Int.reduceBNe, Nat.reduceBNe, bne_self_eq_false, reduceCtorEq, gt_iff_lt, ge_iff_le, hF]; with_reducible rfl)) (hw : wantA (l ++ [o]) S1.s o = some true := by rfl) (hsl : lk j S1.s = .t (.by b) := by rfl) :
    AWP kp Try.prog N (.region id (l ++ [o]).toArray false) Q S := AWP.gnil X_ok ct.cl keep hop hd hdN ht (h hF) hw hsl hQ

end Go.Fw

end
