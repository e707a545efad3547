/- The abstract machine, and the contracts of the code: part 46. -/
import Derived.Test.YtchljppcenckaaaProg
import Derived.Test.YtchljppcenckaaaFwNq

section
/- The table of this program's types, and that the program bears it. -/
namespace Go.Fw
set_option linter.unusedVariables false
open Go Go.Proofs

set_option maxRecDepth 20000
set_option linter.defProp false

def tbl : Tbl := [(1, ⟨.fn, 1, 8, .nilf⟩),
  (2, ⟨.int .i64, 1, 8, .int .i64 0⟩),
  (3, ⟨.int .i64, 1, 8, .int .i64 0⟩),
  (4, ⟨.bool, 1, 1, .bool false⟩),
  (5, ⟨.int .u8, 1, 1, .int .u8 0⟩),
  (9, ⟨.str, 1, 16, .str []⟩),
  (12, ⟨.int .u64, 1, 8, .int .u64 0⟩),
  (17, ⟨.ptr 132, 1, 8, .nilp⟩),
  (21, ⟨.int .i32, 1, 4, .int .i32 0⟩),
  (22, ⟨.sl 5, 1, 24, .nil⟩),
  (23, ⟨.fn, 1, 8, .nilf⟩),
  (24, ⟨.int .u32, 1, 4, .int .u32 0⟩),
  (25, ⟨.sl 48, 1, 24, .nil⟩),
  (26, ⟨.sl 37, 1, 24, .nil⟩),
  (27, ⟨.st [(0, 24), (1, 25), (2, 26), (3, 24)], 4, 64, .st [.int .u32 0, .nil, .nil, .int .u32 0]⟩),
  (28, ⟨.st [(0, 24), (1, 25), (2, 26), (3, 24)], 4, 64, .st [.int .u32 0, .nil, .nil, .int .u32 0]⟩),
  (29, ⟨.int .i64, 1, 8, .int .i64 0⟩),
  (31, ⟨.fn, 1, 8, .nilf⟩),
  (33, ⟨.fn, 1, 8, .nilf⟩),
  (34, ⟨.fn, 1, 8, .nilf⟩),
  (35, ⟨.int .u64, 1, 8, .int .u64 0⟩),
  (36, ⟨.st [(0, 35), (1, 22)], 2, 32, .st [.int .u64 0, .nil]⟩),
  (37, ⟨.st [(0, 35), (1, 22)], 2, 32, .st [.int .u64 0, .nil]⟩),
  (38, ⟨.fn, 1, 8, .nilf⟩),
  (39, ⟨.fn, 1, 8, .nilf⟩),
  (40, ⟨.fn, 1, 8, .nilf⟩),
  (41, ⟨.fn, 1, 8, .nilf⟩),
  (42, ⟨.fn, 1, 8, .nilf⟩),
  (43, ⟨.arr 32 5, 32, 32, .ba 32 (zby 32)⟩),
  (44, ⟨.st [(0, 43), (32, 24)], 33, 36, .st [.ba 32 (zby 32), .int .u32 0]⟩),
  (45, ⟨.st [(0, 43), (32, 24)], 33, 36, .st [.ba 32 (zby 32), .int .u32 0]⟩),
  (46, ⟨.sl 22, 1, 24, .nil⟩),
  (47, ⟨.st [(0, 45), (33, 24), (34, 46)], 35, 64, .st [.st [.ba 32 (zby 32), .int .u32 0], .int .u32 0, .nil]⟩),
  (48, ⟨.st [(0, 45), (33, 24), (34, 46)], 35, 64, .st [.st [.ba 32 (zby 32), .int .u32 0], .int .u32 0, .nil]⟩),
  (49, ⟨.fn, 1, 8, .nilf⟩),
  (50, ⟨.fn, 1, 8, .nilf⟩),
  (51, ⟨.ptr 53, 1, 8, .nilp⟩),
  (52, ⟨.st [(0, 22), (1, 29)], 2, 32, .st [.nil, .int .i64 0]⟩),
  (53, ⟨.st [(0, 22), (1, 29)], 2, 32, .st [.nil, .int .i64 0]⟩),
  (54, ⟨.fn, 1, 8, .nilf⟩),
  (55, ⟨.fn, 1, 8, .nilf⟩),
  (56, ⟨.ptr 58, 1, 8, .nilp⟩),
  (57, ⟨.st [(0, 22), (1, 29)], 2, 32, .st [.nil, .int .i64 0]⟩),
  (58, ⟨.st [(0, 22), (1, 29)], 2, 32, .st [.nil, .int .i64 0]⟩),
  (59, ⟨.fn, 1, 8, .nilf⟩),
  (60, ⟨.fn, 1, 8, .nilf⟩),
  (61, ⟨.fn, 1, 8, .nilf⟩),
  (62, ⟨.fn, 1, 8, .nilf⟩),
  (63, ⟨.fn, 1, 8, .nilf⟩),
  (64, ⟨.fn, 1, 8, .nilf⟩),
  (65, ⟨.fn, 1, 8, .nilf⟩),
  (66, ⟨.fn, 1, 8, .nilf⟩),
  (67, ⟨.fn, 1, 8, .nilf⟩),
  (68, ⟨.fn, 1, 8, .nilf⟩),
  (69, ⟨.fn, 1, 8, .nilf⟩),
  (70, ⟨.fn, 1, 8, .nilf⟩),
  (71, ⟨.fn, 1, 8, .nilf⟩),
  (72, ⟨.fn, 1, 8, .nilf⟩),
  (73, ⟨.fn, 1, 8, .nilf⟩),
  (75, ⟨.fn, 1, 8, .nilf⟩),
  (76, ⟨.fn, 1, 8, .nilf⟩),
  (78, ⟨.fn, 1, 8, .nilf⟩),
  (80, ⟨.fn, 1, 8, .nilf⟩),
  (81, ⟨.fn, 1, 8, .nilf⟩),
  (82, ⟨.fn, 1, 8, .nilf⟩),
  (83, ⟨.fn, 1, 8, .nilf⟩),
  (84, ⟨.fn, 1, 8, .nilf⟩),
  (85, ⟨.fn, 1, 8, .nilf⟩),
  (86, ⟨.fn, 1, 8, .nilf⟩),
  (87, ⟨.fn, 1, 8, .nilf⟩),
  (88, ⟨.fn, 1, 8, .nilf⟩),
  (90, ⟨.fn, 1, 8, .nilf⟩),
  (91, ⟨.fn, 1, 8, .nilf⟩),
  (92, ⟨.fn, 1, 8, .nilf⟩),
  (93, ⟨.ptr 111, 1, 8, .nilp⟩),
  (94, ⟨.fn, 1, 8, .nilf⟩),
  (95, ⟨.fn, 1, 8, .nilf⟩),
  (96, ⟨.fn, 1, 8, .nilf⟩),
  (97, ⟨.fn, 1, 8, .nilf⟩),
  (98, ⟨.fn, 1, 8, .nilf⟩),
  (99, ⟨.int .u16, 1, 2, .int .u16 0⟩),
  (100, ⟨.sl 24, 1, 24, .nil⟩),
  (101, ⟨.fn, 1, 8, .nilf⟩),
  (102, ⟨.fn, 1, 8, .nilf⟩),
  (103, ⟨.fn, 1, 8, .nilf⟩),
  (104, ⟨.int .u64, 1, 8, .int .u64 0⟩),
  (106, ⟨.fn, 1, 8, .nilf⟩),
  (107, ⟨.arr 8 24, 8, 32, .ar 8 1 (List.replicate 8 (.int .u32 0))⟩),
  (108, ⟨.arr 8 24, 8, 32, .ar 8 1 (List.replicate 8 (.int .u32 0))⟩),
  (109, ⟨.fn, 1, 8, .nilf⟩),
  (110, ⟨.st [(0, 108), (8, 22), (9, 35)], 10, 64, .st [.ar 8 1 (List.replicate 8 (.int .u32 0)), .nil, .int .u64 0]⟩),
  (111, ⟨.st [(0, 108), (8, 22), (9, 35)], 10, 64, .st [.ar 8 1 (List.replicate 8 (.int .u32 0)), .nil, .int .u64 0]⟩),
  (112, ⟨.fn, 1, 8, .nilf⟩),
  (113, ⟨.ptr 108, 1, 8, .nilp⟩),
  (114, ⟨.arr 64 24, 64, 256, .ar 64 1 (zar 64 (.int .u32 0))⟩),
  (115, ⟨.fn, 1, 8, .nilf⟩),
  (116, ⟨.fn, 1, 8, .nilf⟩),
  (117, ⟨.fn, 1, 8, .nilf⟩),
  (118, ⟨.fn, 1, 8, .nilf⟩),
  (124, ⟨.fn, 1, 8, .nilf⟩),
  (128, ⟨.ptr 5, 1, 8, .nilp⟩)]

def E : Env := envOf tbl

theorem tbl_ok : tblB Try.prog tbl = true := by kernel_rfl

theorem E_ok : EnvOk Try.prog E := envOf_ok tbl_ok

theorem B_ok : ByteOk E := byteOk_of (by kernel_rfl)

theorem E1 : E 1 = ⟨.fn, 1, 8, .nilf⟩ := rfl
theorem E2 : E 2 = ⟨.int .i64, 1, 8, .int .i64 0⟩ := rfl
theorem E3 : E 3 = ⟨.int .i64, 1, 8, .int .i64 0⟩ := rfl
theorem E4 : E 4 = ⟨.bool, 1, 1, .bool false⟩ := rfl
theorem E5 : E 5 = ⟨.int .u8, 1, 1, .int .u8 0⟩ := rfl
theorem E9 : E 9 = ⟨.str, 1, 16, .str []⟩ := rfl
theorem E12 : E 12 = ⟨.int .u64, 1, 8, .int .u64 0⟩ := rfl
theorem E17 : E 17 = ⟨.ptr 132, 1, 8, .nilp⟩ := rfl
theorem E21 : E 21 = ⟨.int .i32, 1, 4, .int .i32 0⟩ := rfl
theorem E22 : E 22 = ⟨.sl 5, 1, 24, .nil⟩ := rfl
theorem E23 : E 23 = ⟨.fn, 1, 8, .nilf⟩ := rfl
theorem E24 : E 24 = ⟨.int .u32, 1, 4, .int .u32 0⟩ := rfl
theorem E25 : E 25 = ⟨.sl 48, 1, 24, .nil⟩ := rfl
theorem E26 : E 26 = ⟨.sl 37, 1, 24, .nil⟩ := rfl
theorem E27 : E 27 = ⟨.st [(0, 24), (1, 25), (2, 26), (3, 24)], 4, 64, .st [.int .u32 0, .nil, .nil, .int .u32 0]⟩ := rfl
theorem E28 : E 28 = ⟨.st [(0, 24), (1, 25), (2, 26), (3, 24)], 4, 64, .st [.int .u32 0, .nil, .nil, .int .u32 0]⟩ := rfl
theorem E29 : E 29 = ⟨.int .i64, 1, 8, .int .i64 0⟩ := rfl
theorem E31 : E 31 = ⟨.fn, 1, 8, .nilf⟩ := rfl
theorem E33 : E 33 = ⟨.fn, 1, 8, .nilf⟩ := rfl
theorem E34 : E 34 = ⟨.fn, 1, 8, .nilf⟩ := rfl
theorem E35 : E 35 = ⟨.int .u64, 1, 8, .int .u64 0⟩ := rfl
theorem E36 : E 36 = ⟨.st [(0, 35), (1, 22)], 2, 32, .st [.int .u64 0, .nil]⟩ := rfl
theorem E37 : E 37 = ⟨.st [(0, 35), (1, 22)], 2, 32, .st [.int .u64 0, .nil]⟩ := rfl
theorem E38 : E 38 = ⟨.fn, 1, 8, .nilf⟩ := rfl
theorem E39 : E 39 = ⟨.fn, 1, 8, .nilf⟩ := rfl
theorem E40 : E 40 = ⟨.fn, 1, 8, .nilf⟩ := rfl
theorem E41 : E 41 = ⟨.fn, 1, 8, .nilf⟩ := rfl
theorem E42 : E 42 = ⟨.fn, 1, 8, .nilf⟩ := rfl
theorem E43 : E 43 = ⟨.arr 32 5, 32, 32, .ba 32 (zby 32)⟩ := rfl
theorem E44 : E 44 = ⟨.st [(0, 43), (32, 24)], 33, 36, .st [.ba 32 (zby 32), .int .u32 0]⟩ := rfl
theorem E45 : E 45 = ⟨.st [(0, 43), (32, 24)], 33, 36, .st [.ba 32 (zby 32), .int .u32 0]⟩ := rfl
theorem E46 : E 46 = ⟨.sl 22, 1, 24, .nil⟩ := rfl
theorem E47 : E 47 = ⟨.st [(0, 45), (33, 24), (34, 46)], 35, 64, .st [.st [.ba 32 (zby 32), .int .u32 0], .int .u32 0, .nil]⟩ := rfl
theorem E48 : E 48 = ⟨.st [(0, 45), (33, 24), (34, 46)], 35, 64, .st [.st [.ba 32 (zby 32), .int .u32 0], .int .u32 0, .nil]⟩ := rfl
theorem E49 : E 49 = ⟨.fn, 1, 8, .nilf⟩ := rfl
theorem E50 : E 50 = ⟨.fn, 1, 8, .nilf⟩ := rfl
theorem E51 : E 51 = ⟨.ptr 53, 1, 8, .nilp⟩ := rfl
theorem E52 : E 52 = ⟨.st [(0, 22), (1, 29)], 2, 32, .st [.nil, .int .i64 0]⟩ := rfl
theorem E53 : E 53 = ⟨.st [(0, 22), (1, 29)], 2, 32, .st [.nil, .int .i64 0]⟩ := rfl
theorem E54 : E 54 = ⟨.fn, 1, 8, .nilf⟩ := rfl
theorem E55 : E 55 = ⟨.fn, 1, 8, .nilf⟩ := rfl
theorem E56 : E 56 = ⟨.ptr 58, 1, 8, .nilp⟩ := rfl
theorem E57 : E 57 = ⟨.st [(0, 22), (1, 29)], 2, 32, .st [.nil, .int .i64 0]⟩ := rfl
theorem E58 : E 58 = ⟨.st [(0, 22), (1, 29)], 2, 32, .st [.nil, .int .i64 0]⟩ := rfl
theorem E59 : E 59 = ⟨.fn, 1, 8, .nilf⟩ := rfl
theorem E60 : E 60 = ⟨.fn, 1, 8, .nilf⟩ := rfl
theorem E61 : E 61 = ⟨.fn, 1, 8, .nilf⟩ := rfl
theorem E62 : E 62 = ⟨.fn, 1, 8, .nilf⟩ := rfl
theorem E63 : E 63 = ⟨.fn, 1, 8, .nilf⟩ := rfl
theorem E64 : E 64 = ⟨.fn, 1, 8, .nilf⟩ := rfl
theorem E65 : E 65 = ⟨.fn, 1, 8, .nilf⟩ := rfl
theorem E66 : E 66 = ⟨.fn, 1, 8, .nilf⟩ := rfl
theorem E67 : E 67 = ⟨.fn, 1, 8, .nilf⟩ := rfl
theorem E68 : E 68 = ⟨.fn, 1, 8, .nilf⟩ := rfl
theorem E69 : E 69 = ⟨.fn, 1, 8, .nilf⟩ := rfl
theorem E70 : E 70 = ⟨.fn, 1, 8, .nilf⟩ := rfl
theorem E71 : E 71 = ⟨.fn, 1, 8, .nilf⟩ := rfl
theorem E72 : E 72 = ⟨.fn, 1, 8, .nilf⟩ := rfl
theorem E73 : E 73 = ⟨.fn, 1, 8, .nilf⟩ := rfl
theorem E75 : E 75 = ⟨.fn, 1, 8, .nilf⟩ := rfl
theorem E76 : E 76 = ⟨.fn, 1, 8, .nilf⟩ := rfl
theorem E78 : E 78 = ⟨.fn, 1, 8, .nilf⟩ := rfl
theorem E80 : E 80 = ⟨.fn, 1, 8, .nilf⟩ := rfl
theorem E81 : E 81 = ⟨.fn, 1, 8, .nilf⟩ := rfl
theorem E82 : E 82 = ⟨.fn, 1, 8, .nilf⟩ := rfl
theorem E83 : E 83 = ⟨.fn, 1, 8, .nilf⟩ := rfl
theorem E84 : E 84 = ⟨.fn, 1, 8, .nilf⟩ := rfl
theorem E85 : E 85 = ⟨.fn, 1, 8, .nilf⟩ := rfl
theorem E86 : E 86 = ⟨.fn, 1, 8, .nilf⟩ := rfl
theorem E87 : E 87 = ⟨.fn, 1, 8, .nilf⟩ := rfl
theorem E88 : E 88 = ⟨.fn, 1, 8, .nilf⟩ := rfl
theorem E90 : E 90 = ⟨.fn, 1, 8, .nilf⟩ := rfl
theorem E91 : E 91 = ⟨.fn, 1, 8, .nilf⟩ := rfl
theorem E92 : E 92 = ⟨.fn, 1, 8, .nilf⟩ := rfl
theorem E93 : E 93 = ⟨.ptr 111, 1, 8, .nilp⟩ := rfl
theorem E94 : E 94 = ⟨.fn, 1, 8, .nilf⟩ := rfl
theorem E95 : E 95 = ⟨.fn, 1, 8, .nilf⟩ := rfl
theorem E96 : E 96 = ⟨.fn, 1, 8, .nilf⟩ := rfl
theorem E97 : E 97 = ⟨.fn, 1, 8, .nilf⟩ := rfl
theorem E98 : E 98 = ⟨.fn, 1, 8, .nilf⟩ := rfl
theorem E99 : E 99 = ⟨.int .u16, 1, 2, .int .u16 0⟩ := rfl
theorem E100 : E 100 = ⟨.sl 24, 1, 24, .nil⟩ := rfl
theorem E101 : E 101 = ⟨.fn, 1, 8, .nilf⟩ := rfl
theorem E102 : E 102 = ⟨.fn, 1, 8, .nilf⟩ := rfl
theorem E103 : E 103 = ⟨.fn, 1, 8, .nilf⟩ := rfl
theorem E104 : E 104 = ⟨.int .u64, 1, 8, .int .u64 0⟩ := rfl
theorem E106 : E 106 = ⟨.fn, 1, 8, .nilf⟩ := rfl
theorem E107 : E 107 = ⟨.arr 8 24, 8, 32, .ar 8 1 (List.replicate 8 (.int .u32 0))⟩ := rfl
theorem E108 : E 108 = ⟨.arr 8 24, 8, 32, .ar 8 1 (List.replicate 8 (.int .u32 0))⟩ := rfl
theorem E109 : E 109 = ⟨.fn, 1, 8, .nilf⟩ := rfl
theorem E110 : E 110 = ⟨.st [(0, 108), (8, 22), (9, 35)], 10, 64, .st [.ar 8 1 (List.replicate 8 (.int .u32 0)), .nil, .int .u64 0]⟩ := rfl
theorem E111 : E 111 = ⟨.st [(0, 108), (8, 22), (9, 35)], 10, 64, .st [.ar 8 1 (List.replicate 8 (.int .u32 0)), .nil, .int .u64 0]⟩ := rfl
theorem E112 : E 112 = ⟨.fn, 1, 8, .nilf⟩ := rfl
theorem E113 : E 113 = ⟨.ptr 108, 1, 8, .nilp⟩ := rfl
theorem E114 : E 114 = ⟨.arr 64 24, 64, 256, .ar 64 1 (zar 64 (.int .u32 0))⟩ := rfl
theorem E115 : E 115 = ⟨.fn, 1, 8, .nilf⟩ := rfl
theorem E116 : E 116 = ⟨.fn, 1, 8, .nilf⟩ := rfl
theorem E117 : E 117 = ⟨.fn, 1, 8, .nilf⟩ := rfl
theorem E118 : E 118 = ⟨.fn, 1, 8, .nilf⟩ := rfl
theorem E124 : E 124 = ⟨.fn, 1, 8, .nilf⟩ := rfl
theorem E128 : E 128 = ⟨.ptr 5, 1, 8, .nilp⟩ := rfl
def ES := And.intro @E1 <| And.intro @E2 <| And.intro @E3 <| And.intro @E4 <| And.intro @E5 <| And.intro @E9 <| And.intro @E12 <| And.intro @E17 <| And.intro @E21 <| And.intro @E22 <| And.intro @E23 <| And.intro @E24 <| And.intro @E25 <| And.intro @E26 <| And.intro @E27 <| And.intro @E28 <| And.intro @E29 <| And.intro @E31 <| And.intro @E33 <| And.intro @E34 <| And.intro @E35 <| And.intro @E36 <| And.intro @E37 <| And.intro @E38 <| And.intro @E39 <| And.intro @E40 <| And.intro @E41 <| And.intro @E42 <| And.intro @E43 <| And.intro @E44 <| And.intro @E45 <| And.intro @E46 <| And.intro @E47 <| And.intro @E48 <| And.intro @E49 <| And.intro @E50 <| And.intro @E51 <| And.intro @E52 <| And.intro @E53 <| And.intro @E54 <| And.intro @E55 <| And.intro @E56 <| And.intro @E57 <| And.intro @E58 <| And.intro @E59 <| And.intro @E60 <| And.intro @E61 <| And.intro @E62 <| And.intro @E63 <| And.intro @E64 <| And.intro @E65 <| And.intro @E66 <| And.intro @E67 <| And.intro @E68 <| And.intro @E69 <| And.intro @E70 <| And.intro @E71 <| And.intro @E72 <| And.intro @E73 <| And.intro @E75 <| And.intro @E76 <| And.intro @E78 <| And.intro @E80 <| And.intro @E81 <| And.intro @E82 <| And.intro @E83 <| And.intro @E84 <| And.intro @E85 <| And.intro @E86 <| And.intro @E87 <| And.intro @E88 <| And.intro @E90 <| And.intro @E91 <| And.intro @E92 <| And.intro @E93 <| And.intro @E94 <| And.intro @E95 <| And.intro @E96 <| And.intro @E97 <| And.intro @E98 <| And.intro @E99 <| And.intro @E100 <| And.intro @E101 <| And.intro @E102 <| And.intro @E103 <| And.intro @E104 <| And.intro @E106 <| And.intro @E107 <| And.intro @E108 <| And.intro @E109 <| And.intro @E110 <| And.intro @E111 <| And.intro @E112 <| And.intro @E113 <| And.intro @E114 <| And.intro @E115 <| And.intro @E116 <| And.intro @E117 <| And.intro @E118 <| And.intro @E124 <| @E128

def eqq : List TypeId := [9, 43, 44, 45, 107, 108, 114]

theorem X_ok : XOk Try.prog E eqq := ⟨E_ok, B_ok, fitOk_of (by kernel_rfl), eqsB_ok (by kernel_rfl)⟩

def W := And.intro FWA ES

theorem mix : Try.prog.follows .mixedOrders = true := by kernel_rfl

/-! ### Steps, with the program's table. -/

/-- What a function's walk needs: its calls' contracts, the slots that live, the orders of its drawn regions. -/
structure CT (gl : GCalls) (keep : List Nat) (ds : List (Nat × List Info)) : Prop where
  cl : GClOk Try.prog gl

def lkD (id : Nat) : List (Nat × List Info) → Option (List Info)
  | [] => none
  | (i, l) :: r => if i = id then some l else lkD id r

section
variable {gl : GCalls} {keep : List Nat} {ds : List (Nat × List Info)} {kp N id : Nat} {l : List Oper} {Q : Exit → AS → Prop} {S S' : AS}

theorem AWP.rK (ct : CT gl keep ds) (h : gopsP E eqq gl N keep l S = some S') (hQ : Q .normal S') : AWP kp Try.prog N (.region id l.toArray false) Q S := AWP.greg X_ok ct.cl keep h hQ
theorem AWP.dK (ct : CT gl keep ds) {fs : List Info} (hl : lkD id ds = some fs) (hdep : dOk l fs = true) (h : drunP E eqq gl N keep l fs S = some S') (hQ : Q .normal S') : AWP kp Try.prog N (.region id l.toArray true) Q S :=
  AWP.gdraw X_ok ct.cl keep mix fs hdep h hQ
theorem AWP.cT {cd : Operand} {x y : Code} {b : Bool} (hc : ev S.s cd = .t (.bool b)) (hb : b = true) (ht : AWP kp Try.prog N x Q S) : AWP kp Try.prog N (.cond cd x y) Q S := AWP.condT (by rw [hc, hb]) ht
theorem AWP.cF {cd : Operand} {x y : Code} {b : Bool} (hc : ev S.s cd = .t (.bool b)) (hb : b = false) (hf : AWP kp Try.prog N y Q S) : AWP kp Try.prog N (.cond cd x y) Q S := AWP.condF (by rw [hc, hb]) hf
end

def BL := And.intro @decide_eq_true_eq <| And.intro @decide_eq_false_iff_not <| And.intro @Bool.not_eq_true' <| And.intro @Bool.not_eq_false' <| And.intro @Bool.and_eq_true <| And.intro @Bool.or_eq_true <| And.intro @Bool.or_eq_false_iff <| And.intro @Bool.and_eq_false_iff <| @ne_eq.{1}

/-- A region's end, reckoned. -/
theorem Ev {F : Prop} (hF : F) {α : Type} {a b : α} (h : F → a = b := by (intro hF; (repeat (first | simp only [W, eqq, ↓reduceIte, Nat.reduceEqDiff, Nat.reduceLT, Nat.reduceLeDiff, Nat.reduceAdd, Nat.reduceMul, Nat.reduceSub, Nat.reduceBEq, Int.reduceLE, Int.reduceLT, Int.reduceNeg, Int.reduceToNat, Int.reduceEq, Int.reduceBEq, Int.reduceBNe, Nat.reduceBNe, bne_self_eq_false, reduceCtorEq, gt_iff_lt, ge_iff_le, hF] | (rewrite [if_pos]; rotate_left; focus (first | omega | (simp only [LN, hF]; omega) | (refine ⟨?_, ?_⟩ <;> (simp only [LN, hF] <;> omega)))) | (rewrite [if_neg]; rotate_left; focus (first | omega | (simp only [LN, hF]; omega) | (refine ⟨?_, ?_⟩ <;> (simp only [LN, hF] <;> omega)))) | simp (disch := omega) only [wrap_i64, wrap_u64])); with_reducible rfl)) : a = b := h hF

structure KB (B : Prop) : Prop where
  out : B

/-- One step. -/
theorem St {F : Prop} (hF : F) {gl : GCalls} {keep : List Nat} {ds : List (Nat × List Info)} (ct : CT gl keep ds) {A B : Prop} (k : B) (h : F → CT gl keep ds → KB B → A := by
  (intro hF ct hk; (first
    | refine AWP.seq ?_
    | refine AWP.block ?_
    | (refine AWP.rK ct (Ev hF) ?_; try show AWP _ _ _ _ _ _)
    | (refine AWP.condT ?_ ?_; focus (simp only [W, eqq, ↓reduceIte, Nat.reduceEqDiff, Nat.reduceLT, Nat.reduceLeDiff, Nat.reduceAdd, Nat.reduceMul, Nat.reduceSub, Nat.reduceBEq, Int.reduceLE, Int.reduceLT, Int.reduceNeg, Int.reduceToNat, Int.reduceEq, Int.reduceBEq, Int.reduceBNe, Nat.reduceBNe, bne_self_eq_false, reduceCtorEq, gt_iff_lt, ge_iff_le, hF]; done))
    | (refine AWP.condF ?_ ?_; focus (simp only [W, eqq, ↓reduceIte, Nat.reduceEqDiff, Nat.reduceLT, Nat.reduceLeDiff, Nat.reduceAdd, Nat.reduceMul, Nat.reduceSub, Nat.reduceBEq, Int.reduceLE, Int.reduceLT, Int.reduceNeg, Int.reduceToNat, Int.reduceEq, Int.reduceBEq, Int.reduceBNe, Nat.reduceBNe, bne_self_eq_false, reduceCtorEq, gt_iff_lt, ge_iff_le, hF]; done))
    | (refine AWP.cT (by simp only [W, eqq, ↓reduceIte, Nat.reduceEqDiff, Nat.reduceLT, Nat.reduceLeDiff, Nat.reduceAdd, Nat.reduceMul, Nat.reduceSub, Nat.reduceBEq, Int.reduceLE, Int.reduceLT, Int.reduceNeg, Int.reduceToNat, Int.reduceEq, Int.reduceBEq, Int.reduceBNe, Nat.reduceBNe, bne_self_eq_false, reduceCtorEq, gt_iff_lt, ge_iff_le, hF]; with_reducible rfl) (by simp only [BL, beq_iff_eq, bne_iff_ne, beq_eq_false_iff_ne, bne_eq_false_iff_eq]; omega) ?_)
    | (refine AWP.cF (by simp only [W, eqq, ↓reduceIte, Nat.reduceEqDiff, Nat.reduceLT, Nat.reduceLeDiff, Nat.reduceAdd, Nat.reduceMul, Nat.reduceSub, Nat.reduceBEq, Int.reduceLE, Int.reduceLT, Int.reduceNeg, Int.reduceToNat, Int.reduceEq, Int.reduceBEq, Int.reduceBNe, Nat.reduceBNe, bne_self_eq_false, reduceCtorEq, gt_iff_lt, ge_iff_le, hF]; with_reducible rfl) (by simp only [BL, beq_iff_eq, bne_iff_ne, beq_eq_false_iff_ne, bne_eq_false_iff_eq]; omega) ?_)
    | (refine AWP.skip ?_; try show AWP _ _ _ _ _ _)
    | (refine AWP.exit ?_; try show AWP _ _ _ _ _ _)
    | (refine AWP.dK ct (by rfl) (by kernel_rfl) (Ev hF) ?_; try show AWP _ _ _ _ _ _)); exact hk.out)) : A := h hF ct ⟨k⟩

/-- A state told anew. -/
theorem Wt {F : Prop} (hF : F) (ks ids : List Nat) {kp N : Nat} {S S' : AS} (hok : okIds kp ids := by first | decide | (show okIds 0 _; decide) | (show okIds 1 _; decide) | (show okIds 2 _; decide) | (show okIds 3 _; decide) | (show okIds 4 _; decide) | (show okIds 5 _; decide) | (show okIds 6 _; decide) | (show okIds 7 _; decide) | (show okIds 8 _; decide))
    (h : F → S.norm ks ids = S' := by (intro hF; first | (simp only [W, eqq, ↓reduceIte, Nat.reduceEqDiff, Nat.reduceLT, Nat.reduceLeDiff, Nat.reduceAdd, Nat.reduceMul, Nat.reduceSub, Nat.reduceBEq, Int.reduceLE, Int.reduceLT, Int.reduceNeg, Int.reduceToNat, Int.reduceEq, Int.reduceBEq, Int.reduceBNe, Nat.reduceBNe, bne_self_eq_false, reduceCtorEq, gt_iff_lt, ge_iff_le, hF]; done) | (simp only [W, eqq, ↓reduceIte, Nat.reduceEqDiff, Nat.reduceLT, Nat.reduceLeDiff, Nat.reduceAdd, Nat.reduceMul, Nat.reduceSub, Nat.reduceBEq, Int.reduceLE, Int.reduceLT, Int.reduceNeg, Int.reduceToNat, Int.reduceEq, Int.reduceBEq, Int.reduceBNe, Nat.reduceBNe, bne_self_eq_false, reduceCtorEq, gt_iff_lt, ge_iff_le, hF]; rfl) | (simp only [W, eqq, ↓reduceIte, Nat.reduceEqDiff, Nat.reduceLT, Nat.reduceLeDiff, Nat.reduceAdd, Nat.reduceMul, Nat.reduceSub, Nat.reduceBEq, Int.reduceLE, Int.reduceLT, Int.reduceNeg, Int.reduceToNat, Int.reduceEq, Int.reduceBEq, Int.reduceBNe, Nat.reduceBNe, bne_self_eq_false, reduceCtorEq, gt_iff_lt, ge_iff_le, hF, Int.natCast_add, Int.cast_ofNat_Int]; done))) : Weak kp N S S' := Weak.to ks ids hok (h hF)

/-- The end of a walk. -/
theorem Fin {F : Prop} (hF : F) (fz ids : List Nat) {rs : List RS} {kp : Nat} {H : List Blk} {r : AV} {e : Exit} {S : AS} (he : e = .normal ∨ e = .ret := by first | exact .inl rfl | exact .inr rfl) (hok : okIds kp ids := by first | decide | (show okIds 0 _; decide) | (show okIds 1 _; decide) | (show okIds 2 _; decide) | (show okIds 3 _; decide) | (show okIds 4 _; decide) | (show okIds 5 _; decide) | (show okIds 6 _; decide) | (show okIds 7 _; decide) | (show okIds 8 _; decide))
    (h : F → cres E rs (freezeOnes S.H fz) S.s ids = some (H, r) := by (intro hF; first | (simp only [cres, resVals, RS.val, thawV, freezeOnes, freezeOne, renH, one, AV.ren, AV.renL, Blk.ren, W, eqq, ↓reduceIte, Nat.reduceEqDiff, Nat.reduceLT, Nat.reduceLeDiff, Nat.reduceAdd, Nat.reduceMul, Nat.reduceSub, Nat.reduceBEq, Int.reduceLE, Int.reduceLT, Int.reduceNeg, Int.reduceToNat, Int.reduceEq, Int.reduceBEq, Int.reduceBNe, Nat.reduceBNe, bne_self_eq_false, reduceCtorEq, gt_iff_lt, ge_iff_le, hF]; done) | (simp only [cres, resVals, RS.val, thawV, freezeOnes, freezeOne, renH, one, AV.ren, AV.renL, Blk.ren, W, eqq, ↓reduceIte, Nat.reduceEqDiff, Nat.reduceLT, Nat.reduceLeDiff, Nat.reduceAdd, Nat.reduceMul, Nat.reduceSub, Nat.reduceBEq, Int.reduceLE, Int.reduceLT, Int.reduceNeg, Int.reduceToNat, Int.reduceEq, Int.reduceBEq, Int.reduceBNe, Nat.reduceBNe, bne_self_eq_false, reduceCtorEq, gt_iff_lt, ge_iff_le, hF]; rfl))) : cretQ E rs kp H r e S := ⟨he, fz, ids, hok, h hF⟩

/-- nil in a box, taken for an empty row. -/
theorem Wn {kp N : Nat} {S : AS} {v v' : AV} (i : Nat) (p : List Nat) (o : Nat) (B : T) (hi : S.H[i]? = some (.bx v) := by rfl) (hg : AV.get v p = some (.t .nil) := by (simp only [W, eqq, ↓reduceIte, Nat.reduceEqDiff, Nat.reduceLT, Nat.reduceLeDiff, Nat.reduceAdd, Nat.reduceMul, Nat.reduceSub, Nat.reduceBEq, Int.reduceLE, Int.reduceLT, Int.reduceNeg, Int.reduceToNat, Int.reduceEq, Int.reduceBEq, Int.reduceBNe, Nat.reduceBNe, bne_self_eq_false, reduceCtorEq, gt_iff_lt, ge_iff_le])) (ho : AV.off v p = some o := by (simp only [W, eqq, ↓reduceIte, Nat.reduceEqDiff, Nat.reduceLT, Nat.reduceLeDiff, Nat.reduceAdd, Nat.reduceMul, Nat.reduceSub, Nat.reduceBEq, Int.reduceLE, Int.reduceLT, Int.reduceNeg, Int.reduceToNat, Int.reduceEq, Int.reduceBEq, Int.reduceBNe, Nat.reduceBNe, bne_self_eq_false, reduceCtorEq, gt_iff_lt, ge_iff_le])) (hs' : AV.set v p (.t B) = some v' := by (simp only [W, eqq, ↓reduceIte, Nat.reduceEqDiff, Nat.reduceLT, Nat.reduceLeDiff, Nat.reduceAdd, Nat.reduceMul, Nat.reduceSub, Nat.reduceBEq, Int.reduceLE, Int.reduceLT, Int.reduceNeg, Int.reduceToNat, Int.reduceEq, Int.reduceBEq, Int.reduceBNe, Nat.reduceBNe, bne_self_eq_false, reduceCtorEq, gt_iff_lt, ge_iff_le]; rfl))
    (hB : B = .by [] ∨ ∃ sz, 0 < sz ∧ B = .sq sz [] := by first | exact .inl rfl | exact .inr ⟨_, by decide, rfl⟩) : Weak kp N S ⟨S.s, S.H.set i (.bx v')⟩ := Weak.nilBx i p o B hi hg ho hs' hB
/-- A nil slot, taken for an empty row of the call's own. -/
theorem Wo {kp N : Nat} {S : AS} (i : Nat) (B : Blk) (hi : lk i S.s = .t .nil := by (simp only [W, eqq, ↓reduceIte, Nat.reduceEqDiff, Nat.reduceLT, Nat.reduceLeDiff, Nat.reduceAdd, Nat.reduceMul, Nat.reduceSub, Nat.reduceBEq, Int.reduceLE, Int.reduceLT, Int.reduceNeg, Int.reduceToNat, Int.reduceEq, Int.reduceBEq, Int.reduceBNe, Nat.reduceBNe, bne_self_eq_false, reduceCtorEq, gt_iff_lt, ge_iff_le])) (hB : B = .by [] ∨ ∃ sz, 0 < sz ∧ B = .sq sz [] := by first | exact .inl rfl | exact .inr ⟨_, by decide, rfl⟩) : Weak kp N S ⟨(i, .own S.H.length) :: S.s, S.H ++ [B]⟩ := Weak.own i B hi hB
/-- A comparison with nil, at a region's end. -/
theorem AWP.nK {gl : GCalls} {keep : List Nat} {ds : List (Nat × List Info)} {kp N id d j : Nat} {l : List Oper} {o : Oper} {t t' e : TypeId} {b : List UInt8} {Q : Exit → AS → Prop} {S S1 : AS} {F : Prop} (hF : F) (ct : CT gl keep ds)
    (hQ : ∀ r : Bool, (r = true → b = []) → Q .normal ⟨prune keep ((d, .t (.bool r)) :: S1.s), S1.H⟩)
    (hop : o.op = .binOp .eql t (.tmp j) (.const (.slice none 0 0)) t' := by rfl) (hd : o.dst = some d := by rfl) (hdN : d < N := by decide) (ht : (E t).ty = .sl e := by rfl)
    (h : F → gops E eqq gl N (l ++ [o]) l S = some S1 := by (intro hF; simp only [W, eqq, ↓reduceIte, Nat.reduceEqDiff, Nat.reduceLT, Nat.reduceLeDiff, Nat.reduceAdd, Nat.reduceMul, Nat.reduceSub, Nat.reduceBEq, Int.reduceLE, Int.reduceLT, Int.reduceNeg, Int.reduceToNat, Int.reduceEq, Int.reduceBEq, Int.reduceBNe, Nat.reduceBNe, bne_self_eq_false, reduceCtorEq, gt_iff_lt, ge_iff_le, hF]; with_reducible rfl)) (hw : wantA (l ++ [o]) S1.s o = some true := by rfl) (hsl : lk j S1.s = .t (.by b) := by rfl) :
    AWP kp Try.prog N (.region id (l ++ [o]).toArray false) Q S := AWP.gnil X_ok ct.cl keep hop hd hdN ht (h hF) hw hsl hQ

end Go.Fw

end
