/- The abstract machine, and the contracts of the code: part 45. -/
import Derived.Test.YtfjpkocbfbinaaaProg
import Derived.Test.YtfjpkocbfbinaaaFwNq
set_option linter.unusedVariables false
set_option linter.unusedSimpArgs false

section
namespace Go.Fw
open Go Go.Proofs
set_option maxRecDepth 20000
set_option linter.defProp false
def tbl : Tbl := [(1, ⟨.fn, 1, 8, .nilf⟩),
 (2, ⟨.int .i64, 1, 8, .int .i64 0⟩),
 (3, ⟨.int .i64, 1, 8, .int .i64 0⟩),
 (4, ⟨.bool, 1, 1, .bool false⟩),
 (5, ⟨.int .u8, 1, 1, .int .u8 0⟩),
 (9, ⟨.str, 1, 16, .str []⟩),
 (12, ⟨.int .u64, 1, 8, .int .u64 0⟩),
 (17, ⟨.ptr 165, 1, 8, .nilp⟩),
 (21, ⟨.int .i32, 1, 4, .int .i32 0⟩),
 (22, ⟨.arr 32 5, 32, 32, .ba 32 (zby 32)⟩),
 (23, ⟨.int .u32, 1, 4, .int .u32 0⟩),
 (24, ⟨.sl 5, 1, 24, .nil⟩),
 (25, ⟨.st [(0, 5), (1, 22), (33, 23), (34, 23), (35, 24)], 36, 72, .st [.int .u8 0, .ba 32 (zby 32), .int .u32 0, .int .u32 0, .nil]⟩),
 (26, ⟨.st [(0, 5), (1, 22), (33, 23), (34, 23), (35, 24)], 36, 72, .st [.int .u8 0, .ba 32 (zby 32), .int .u32 0, .int .u32 0, .nil]⟩),
 (27, ⟨.fn, 1, 8, .nilf⟩),
 (28, ⟨.int .i64, 1, 8, .int .i64 0⟩),
 (30, ⟨.fn, 1, 8, .nilf⟩),
 (31, ⟨.fn, 1, 8, .nilf⟩),
 (32, ⟨.st [(0, 5), (1, 22), (33, 23), (34, 23), (35, 24)], 36, 72, .st [.int .u8 0, .ba 32 (zby 32), .int .u32 0, .int .u32 0, .nil]⟩),
 (33, ⟨.fn, 1, 8, .nilf⟩),
 (35, ⟨.fn, 1, 8, .nilf⟩),
 (37, ⟨.fn, 1, 8, .nilf⟩),
 (38, ⟨.fn, 1, 8, .nilf⟩),
 (39, ⟨.fn, 1, 8, .nilf⟩),
 (40, ⟨.int .u64, 1, 8, .int .u64 0⟩),
 (41, ⟨.arr 4 40, 4, 32, .ar 4 1 (List.replicate 4 (.int .u64 0))⟩),
 (42, ⟨.arr 4 40, 4, 32, .ar 4 1 (List.replicate 4 (.int .u64 0))⟩),
 (43, ⟨.sl 65, 1, 24, .nil⟩),
 (44, ⟨.arr 5 23, 5, 20, .ar 5 1 (List.replicate 5 (.int .u32 0))⟩),
 (45, ⟨.sl 22, 1, 24, .nil⟩),
 (46, ⟨.st [(0, 5), (1, 28), (2, 22), (34, 23), (35, 42), (39, 40), (40, 4), (41, 24), (42, 43), (43, 44), (48, 45)], 49, 200, .st [.int .u8 0, .int .i64 0, .ba 32 (zby 32), .int .u32 0, .ar 4 1 (List.replicate 4 (.int .u64 0)), .int .u64 0, .bool false, .nil, .nil, .ar 5 1 (List.replicate 5 (.int .u32 0)), .nil]⟩),
 (47, ⟨.st [(0, 5), (1, 28), (2, 22), (34, 23), (35, 42), (39, 40), (40, 4), (41, 24), (42, 43), (43, 44), (48, 45)], 49, 200, .st [.int .u8 0, .int .i64 0, .ba 32 (zby 32), .int .u32 0, .ar 4 1 (List.replicate 4 (.int .u64 0)), .int .u64 0, .bool false, .nil, .nil, .ar 5 1 (List.replicate 5 (.int .u32 0)), .nil]⟩),
 (49, ⟨.fn, 1, 8, .nilf⟩),
 (50, ⟨.sl 99, 1, 24, .nil⟩),
 (51, ⟨.st [(0, 5), (1, 28), (2, 22), (34, 23), (35, 42), (39, 40), (40, 4), (41, 24), (42, 50), (43, 44), (48, 45)], 49, 200, .st [.int .u8 0, .int .i64 0, .ba 32 (zby 32), .int .u32 0, .ar 4 1 (List.replicate 4 (.int .u64 0)), .int .u64 0, .bool false, .nil, .nil, .ar 5 1 (List.replicate 5 (.int .u32 0)), .nil]⟩),
 (52, ⟨.st [(0, 5), (1, 28), (2, 22), (34, 23), (35, 42), (39, 40), (40, 4), (41, 24), (42, 50), (43, 44), (48, 45)], 49, 200, .st [.int .u8 0, .int .i64 0, .ba 32 (zby 32), .int .u32 0, .ar 4 1 (List.replicate 4 (.int .u64 0)), .int .u64 0, .bool false, .nil, .nil, .ar 5 1 (List.replicate 5 (.int .u32 0)), .nil]⟩),
 (54, ⟨.fn, 1, 8, .nilf⟩),
 (55, ⟨.fn, 1, 8, .nilf⟩),
 (56, ⟨.fn, 1, 8, .nilf⟩),
 (57, ⟨.fn, 1, 8, .nilf⟩),
 (58, ⟨.fn, 1, 8, .nilf⟩),
 (59, ⟨.fn, 1, 8, .nilf⟩),
 (60, ⟨.fn, 1, 8, .nilf⟩),
 (61, ⟨.fn, 1, 8, .nilf⟩),
 (62, ⟨.st [(0, 22), (32, 23)], 33, 36, .st [.ba 32 (zby 32), .int .u32 0]⟩),
 (63, ⟨.st [(0, 22), (32, 23)], 33, 36, .st [.ba 32 (zby 32), .int .u32 0]⟩),
 (64, ⟨.st [(0, 63), (33, 40), (34, 3), (35, 3), (36, 23), (37, 22)], 69, 104, .st [.st [.ba 32 (zby 32), .int .u32 0], .int .u64 0, .int .i64 0, .int .i64 0, .int .u32 0, .ba 32 (zby 32)]⟩),
 (65, ⟨.st [(0, 63), (33, 40), (34, 3), (35, 3), (36, 23), (37, 22)], 69, 104, .st [.st [.ba 32 (zby 32), .int .u32 0], .int .u64 0, .int .i64 0, .int .i64 0, .int .u32 0, .ba 32 (zby 32)]⟩),
 (66, ⟨.fn, 1, 8, .nilf⟩),
 (67, ⟨.ptr 69, 1, 8, .nilp⟩),
 (68, ⟨.st [(0, 24)], 1, 24, .st [.nil]⟩),
 (69, ⟨.st [(0, 24)], 1, 24, .st [.nil]⟩),
 (70, ⟨.fn, 1, 8, .nilf⟩),
 (71, ⟨.fn, 1, 8, .nilf⟩),
 (72, ⟨.fn, 1, 8, .nilf⟩),
 (73, ⟨.fn, 1, 8, .nilf⟩),
 (74, ⟨.fn, 1, 8, .nilf⟩),
 (75, ⟨.fn, 1, 8, .nilf⟩),
 (76, ⟨.fn, 1, 8, .nilf⟩),
 (77, ⟨.fn, 1, 8, .nilf⟩),
 (78, ⟨.st [(0, 70), (1, 71), (2, 72), (3, 73), (4, 74), (5, 75), (6, 76), (7, 77)], 8, 64, .st [.nilf, .nilf, .nilf, .nilf, .nilf, .nilf, .nilf, .nilf]⟩),
 (79, ⟨.st [(0, 70), (1, 71), (2, 72), (3, 73), (4, 74), (5, 75), (6, 76), (7, 77)], 8, 64, .st [.nilf, .nilf, .nilf, .nilf, .nilf, .nilf, .nilf, .nilf]⟩),
 (80, ⟨.fn, 1, 8, .nilf⟩),
 (81, ⟨.fn, 1, 8, .nilf⟩),
 (82, ⟨.ptr 26, 1, 8, .nilp⟩),
 (84, ⟨.fn, 1, 8, .nilf⟩),
 (85, ⟨.fn, 1, 8, .nilf⟩),
 (86, ⟨.arr 4 4, 4, 4, .ar 4 1 (List.replicate 4 (.bool false))⟩),
 (87, ⟨.fn, 1, 8, .nilf⟩),
 (88, ⟨.fn, 1, 8, .nilf⟩),
 (89, ⟨.fn, 1, 8, .nilf⟩),
 (90, ⟨.ptr 92, 1, 8, .nilp⟩),
 (91, ⟨.st [(0, 24), (1, 4)], 2, 32, .st [.nil, .bool false]⟩),
 (92, ⟨.st [(0, 24), (1, 4)], 2, 32, .st [.nil, .bool false]⟩),
 (93, ⟨.fn, 1, 8, .nilf⟩),
 (94, ⟨.fn, 1, 8, .nilf⟩),
 (95, ⟨.fn, 1, 8, .nilf⟩),
 (97, ⟨.fn, 1, 8, .nilf⟩),
 (98, ⟨.fn, 1, 8, .nilf⟩),
 (99, ⟨.st [(0, 63), (33, 40), (34, 3), (35, 3), (36, 23), (37, 22)], 69, 104, .st [.st [.ba 32 (zby 32), .int .u32 0], .int .u64 0, .int .i64 0, .int .i64 0, .int .u32 0, .ba 32 (zby 32)]⟩),
 (100, ⟨.fn, 1, 8, .nilf⟩),
 (101, ⟨.ptr 47, 1, 8, .nilp⟩),
 (102, ⟨.fn, 1, 8, .nilf⟩),
 (103, ⟨.fn, 1, 8, .nilf⟩),
 (104, ⟨.fn, 1, 8, .nilf⟩),
 (105, ⟨.ptr 22, 1, 8, .nilp⟩),
 (106, ⟨.ptr 23, 1, 8, .nilp⟩),
 (107, ⟨.ptr 24, 1, 8, .nilp⟩),
 (108, ⟨.fn, 1, 8, .nilf⟩),
 (109, ⟨.ptr 111, 1, 8, .nilp⟩),
 (110, ⟨.st [(0, 24), (1, 4)], 2, 32, .st [.nil, .bool false]⟩),
 (111, ⟨.st [(0, 24), (1, 4)], 2, 32, .st [.nil, .bool false]⟩),
 (112, ⟨.fn, 1, 8, .nilf⟩),
 (113, ⟨.fn, 1, 8, .nilf⟩),
 (114, ⟨.fn, 1, 8, .nilf⟩),
 (116, ⟨.fn, 1, 8, .nilf⟩),
 (118, ⟨.fn, 1, 8, .nilf⟩),
 (119, ⟨.fn, 1, 8, .nilf⟩),
 (120, ⟨.fn, 1, 8, .nilf⟩),
 (121, ⟨.fn, 1, 8, .nilf⟩),
 (122, ⟨.ptr 42, 1, 8, .nilp⟩),
 (123, ⟨.ptr 40, 1, 8, .nilp⟩),
 (124, ⟨.ptr 4, 1, 8, .nilp⟩),
 (125, ⟨.fn, 1, 8, .nilf⟩),
 (126, ⟨.fn, 1, 8, .nilf⟩),
 (127, ⟨.ptr 65, 1, 8, .nilp⟩),
 (128, ⟨.fn, 1, 8, .nilf⟩),
 (129, ⟨.fn, 1, 8, .nilf⟩),
 (130, ⟨.fn, 1, 8, .nilf⟩),
 (131, ⟨.arr 9 4, 9, 9, .ar 9 1 (zar 9 (.bool false))⟩),
 (132, ⟨.fn, 1, 8, .nilf⟩),
 (133, ⟨.fn, 1, 8, .nilf⟩),
 (134, ⟨.fn, 1, 8, .nilf⟩),
 (135, ⟨.fn, 1, 8, .nilf⟩),
 (136, ⟨.fn, 1, 8, .nilf⟩),
 (137, ⟨.ptr 3, 1, 8, .nilp⟩),
 (138, ⟨.fn, 1, 8, .nilf⟩),
 (139, ⟨.fn, 1, 8, .nilf⟩),
 (140, ⟨.int .u64, 1, 8, .int .u64 0⟩),
 (141, ⟨.fn, 1, 8, .nilf⟩),
 (142, ⟨.fn, 1, 8, .nilf⟩),
 (143, ⟨.fn, 1, 8, .nilf⟩),
 (144, ⟨.int .u16, 1, 2, .int .u16 0⟩),
 (145, ⟨.fn, 1, 8, .nilf⟩),
 (147, ⟨.fn, 1, 8, .nilf⟩),
 (148, ⟨.fn, 1, 8, .nilf⟩),
 (150, ⟨.fn, 1, 8, .nilf⟩),
 (151, ⟨.fn, 1, 8, .nilf⟩),
 (157, ⟨.fn, 1, 8, .nilf⟩),
 (161, ⟨.ptr 5, 1, 8, .nilp⟩)]
def E : Env := envOf tbl
theorem tbl_ok : tblB Try.prog tbl = true := by kernel_rfl
theorem E_ok : EnvOk Try.prog E := envOf_ok tbl_ok
theorem B_ok : ByteOk E := byteOk_of (by kernel_rfl)
theorem E1 : E 1 = ⟨.fn, 1, 8, .nilf⟩ := rfl
theorem E2 : E 2 = ⟨.int .i64, 1, 8, .int .i64 0⟩ := rfl
theorem E3 : E 3 = ⟨.int .i64, 1, 8, .int .i64 0⟩ := rfl
theorem E4 : E 4 = ⟨.bool, 1, 1, .bool false⟩ := rfl
theorem E5 : E 5 = ⟨.int .u8, 1, 1, .int .u8 0⟩ := rfl
theorem E9 : E 9 = ⟨.str, 1, 16, .str []⟩ := rfl
theorem E12 : E 12 = ⟨.int .u64, 1, 8, .int .u64 0⟩ := rfl
theorem E17 : E 17 = ⟨.ptr 165, 1, 8, .nilp⟩ := rfl
theorem E21 : E 21 = ⟨.int .i32, 1, 4, .int .i32 0⟩ := rfl
theorem E22 : E 22 = ⟨.arr 32 5, 32, 32, .ba 32 (zby 32)⟩ := rfl
theorem E23 : E 23 = ⟨.int .u32, 1, 4, .int .u32 0⟩ := rfl
theorem E24 : E 24 = ⟨.sl 5, 1, 24, .nil⟩ := rfl
theorem E25 : E 25 = ⟨.st [(0, 5), (1, 22), (33, 23), (34, 23), (35, 24)], 36, 72, .st [.int .u8 0, .ba 32 (zby 32), .int .u32 0, .int .u32 0, .nil]⟩ := rfl
theorem E26 : E 26 = ⟨.st [(0, 5), (1, 22), (33, 23), (34, 23), (35, 24)], 36, 72, .st [.int .u8 0, .ba 32 (zby 32), .int .u32 0, .int .u32 0, .nil]⟩ := rfl
theorem E27 : E 27 = ⟨.fn, 1, 8, .nilf⟩ := rfl
theorem E28 : E 28 = ⟨.int .i64, 1, 8, .int .i64 0⟩ := rfl
theorem E30 : E 30 = ⟨.fn, 1, 8, .nilf⟩ := rfl
theorem E31 : E 31 = ⟨.fn, 1, 8, .nilf⟩ := rfl
theorem E32 : E 32 = ⟨.st [(0, 5), (1, 22), (33, 23), (34, 23), (35, 24)], 36, 72, .st [.int .u8 0, .ba 32 (zby 32), .int .u32 0, .int .u32 0, .nil]⟩ := rfl
theorem E33 : E 33 = ⟨.fn, 1, 8, .nilf⟩ := rfl
theorem E35 : E 35 = ⟨.fn, 1, 8, .nilf⟩ := rfl
theorem E37 : E 37 = ⟨.fn, 1, 8, .nilf⟩ := rfl
theorem E38 : E 38 = ⟨.fn, 1, 8, .nilf⟩ := rfl
theorem E39 : E 39 = ⟨.fn, 1, 8, .nilf⟩ := rfl
theorem E40 : E 40 = ⟨.int .u64, 1, 8, .int .u64 0⟩ := rfl
theorem E41 : E 41 = ⟨.arr 4 40, 4, 32, .ar 4 1 (List.replicate 4 (.int .u64 0))⟩ := rfl
theorem E42 : E 42 = ⟨.arr 4 40, 4, 32, .ar 4 1 (List.replicate 4 (.int .u64 0))⟩ := rfl
theorem E43 : E 43 = ⟨.sl 65, 1, 24, .nil⟩ := rfl
theorem E44 : E 44 = ⟨.arr 5 23, 5, 20, .ar 5 1 (List.replicate 5 (.int .u32 0))⟩ := rfl
theorem E45 : E 45 = ⟨.sl 22, 1, 24, .nil⟩ := rfl
theorem E46 : E 46 = ⟨.st [(0, 5), (1, 28), (2, 22), (34, 23), (35, 42), (39, 40), (40, 4), (41, 24), (42, 43), (43, 44), (48, 45)], 49, 200, .st [.int .u8 0, .int .i64 0, .ba 32 (zby 32), .int .u32 0, .ar 4 1 (List.replicate 4 (.int .u64 0)), .int .u64 0, .bool false, .nil, .nil, .ar 5 1 (List.replicate 5 (.int .u32 0)), .nil]⟩ := rfl
theorem E47 : E 47 = ⟨.st [(0, 5), (1, 28), (2, 22), (34, 23), (35, 42), (39, 40), (40, 4), (41, 24), (42, 43), (43, 44), (48, 45)], 49, 200, .st [.int .u8 0, .int .i64 0, .ba 32 (zby 32), .int .u32 0, .ar 4 1 (List.replicate 4 (.int .u64 0)), .int .u64 0, .bool false, .nil, .nil, .ar 5 1 (List.replicate 5 (.int .u32 0)), .nil]⟩ := rfl
theorem E49 : E 49 = ⟨.fn, 1, 8, .nilf⟩ := rfl
theorem E50 : E 50 = ⟨.sl 99, 1, 24, .nil⟩ := rfl
theorem E51 : E 51 = ⟨.st [(0, 5), (1, 28), (2, 22), (34, 23), (35, 42), (39, 40), (40, 4), (41, 24), (42, 50), (43, 44), (48, 45)], 49, 200, .st [.int .u8 0, .int .i64 0, .ba 32 (zby 32), .int .u32 0, .ar 4 1 (List.replicate 4 (.int .u64 0)), .int .u64 0, .bool false, .nil, .nil, .ar 5 1 (List.replicate 5 (.int .u32 0)), .nil]⟩ := rfl
theorem E52 : E 52 = ⟨.st [(0, 5), (1, 28), (2, 22), (34, 23), (35, 42), (39, 40), (40, 4), (41, 24), (42, 50), (43, 44), (48, 45)], 49, 200, .st [.int .u8 0, .int .i64 0, .ba 32 (zby 32), .int .u32 0, .ar 4 1 (List.replicate 4 (.int .u64 0)), .int .u64 0, .bool false, .nil, .nil, .ar 5 1 (List.replicate 5 (.int .u32 0)), .nil]⟩ := rfl
theorem E54 : E 54 = ⟨.fn, 1, 8, .nilf⟩ := rfl
theorem E55 : E 55 = ⟨.fn, 1, 8, .nilf⟩ := rfl
theorem E56 : E 56 = ⟨.fn, 1, 8, .nilf⟩ := rfl
theorem E57 : E 57 = ⟨.fn, 1, 8, .nilf⟩ := rfl
theorem E58 : E 58 = ⟨.fn, 1, 8, .nilf⟩ := rfl
theorem E59 : E 59 = ⟨.fn, 1, 8, .nilf⟩ := rfl
theorem E60 : E 60 = ⟨.fn, 1, 8, .nilf⟩ := rfl
theorem E61 : E 61 = ⟨.fn, 1, 8, .nilf⟩ := rfl
theorem E62 : E 62 = ⟨.st [(0, 22), (32, 23)], 33, 36, .st [.ba 32 (zby 32), .int .u32 0]⟩ := rfl
theorem E63 : E 63 = ⟨.st [(0, 22), (32, 23)], 33, 36, .st [.ba 32 (zby 32), .int .u32 0]⟩ := rfl
theorem E64 : E 64 = ⟨.st [(0, 63), (33, 40), (34, 3), (35, 3), (36, 23), (37, 22)], 69, 104, .st [.st [.ba 32 (zby 32), .int .u32 0], .int .u64 0, .int .i64 0, .int .i64 0, .int .u32 0, .ba 32 (zby 32)]⟩ := rfl
theorem E65 : E 65 = ⟨.st [(0, 63), (33, 40), (34, 3), (35, 3), (36, 23), (37, 22)], 69, 104, .st [.st [.ba 32 (zby 32), .int .u32 0], .int .u64 0, .int .i64 0, .int .i64 0, .int .u32 0, .ba 32 (zby 32)]⟩ := rfl
theorem E66 : E 66 = ⟨.fn, 1, 8, .nilf⟩ := rfl
theorem E67 : E 67 = ⟨.ptr 69, 1, 8, .nilp⟩ := rfl
theorem E68 : E 68 = ⟨.st [(0, 24)], 1, 24, .st [.nil]⟩ := rfl
theorem E69 : E 69 = ⟨.st [(0, 24)], 1, 24, .st [.nil]⟩ := rfl
theorem E70 : E 70 = ⟨.fn, 1, 8, .nilf⟩ := rfl
theorem E71 : E 71 = ⟨.fn, 1, 8, .nilf⟩ := rfl
theorem E72 : E 72 = ⟨.fn, 1, 8, .nilf⟩ := rfl
theorem E73 : E 73 = ⟨.fn, 1, 8, .nilf⟩ := rfl
theorem E74 : E 74 = ⟨.fn, 1, 8, .nilf⟩ := rfl
theorem E75 : E 75 = ⟨.fn, 1, 8, .nilf⟩ := rfl
theorem E76 : E 76 = ⟨.fn, 1, 8, .nilf⟩ := rfl
theorem E77 : E 77 = ⟨.fn, 1, 8, .nilf⟩ := rfl
theorem E78 : E 78 = ⟨.st [(0, 70), (1, 71), (2, 72), (3, 73), (4, 74), (5, 75), (6, 76), (7, 77)], 8, 64, .st [.nilf, .nilf, .nilf, .nilf, .nilf, .nilf, .nilf, .nilf]⟩ := rfl
theorem E79 : E 79 = ⟨.st [(0, 70), (1, 71), (2, 72), (3, 73), (4, 74), (5, 75), (6, 76), (7, 77)], 8, 64, .st [.nilf, .nilf, .nilf, .nilf, .nilf, .nilf, .nilf, .nilf]⟩ := rfl
theorem E80 : E 80 = ⟨.fn, 1, 8, .nilf⟩ := rfl
theorem E81 : E 81 = ⟨.fn, 1, 8, .nilf⟩ := rfl
theorem E82 : E 82 = ⟨.ptr 26, 1, 8, .nilp⟩ := rfl
theorem E84 : E 84 = ⟨.fn, 1, 8, .nilf⟩ := rfl
theorem E85 : E 85 = ⟨.fn, 1, 8, .nilf⟩ := rfl
theorem E86 : E 86 = ⟨.arr 4 4, 4, 4, .ar 4 1 (List.replicate 4 (.bool false))⟩ := rfl
theorem E87 : E 87 = ⟨.fn, 1, 8, .nilf⟩ := rfl
theorem E88 : E 88 = ⟨.fn, 1, 8, .nilf⟩ := rfl
theorem E89 : E 89 = ⟨.fn, 1, 8, .nilf⟩ := rfl
theorem E90 : E 90 = ⟨.ptr 92, 1, 8, .nilp⟩ := rfl
theorem E91 : E 91 = ⟨.st [(0, 24), (1, 4)], 2, 32, .st [.nil, .bool false]⟩ := rfl
theorem E92 : E 92 = ⟨.st [(0, 24), (1, 4)], 2, 32, .st [.nil, .bool false]⟩ := rfl
theorem E93 : E 93 = ⟨.fn, 1, 8, .nilf⟩ := rfl
theorem E94 : E 94 = ⟨.fn, 1, 8, .nilf⟩ := rfl
theorem E95 : E 95 = ⟨.fn, 1, 8, .nilf⟩ := rfl
theorem E97 : E 97 = ⟨.fn, 1, 8, .nilf⟩ := rfl
theorem E98 : E 98 = ⟨.fn, 1, 8, .nilf⟩ := rfl
theorem E99 : E 99 = ⟨.st [(0, 63), (33, 40), (34, 3), (35, 3), (36, 23), (37, 22)], 69, 104, .st [.st [.ba 32 (zby 32), .int .u32 0], .int .u64 0, .int .i64 0, .int .i64 0, .int .u32 0, .ba 32 (zby 32)]⟩ := rfl
theorem E100 : E 100 = ⟨.fn, 1, 8, .nilf⟩ := rfl
theorem E101 : E 101 = ⟨.ptr 47, 1, 8, .nilp⟩ := rfl
theorem E102 : E 102 = ⟨.fn, 1, 8, .nilf⟩ := rfl
theorem E103 : E 103 = ⟨.fn, 1, 8, .nilf⟩ := rfl
theorem E104 : E 104 = ⟨.fn, 1, 8, .nilf⟩ := rfl
theorem E105 : E 105 = ⟨.ptr 22, 1, 8, .nilp⟩ := rfl
theorem E106 : E 106 = ⟨.ptr 23, 1, 8, .nilp⟩ := rfl
theorem E107 : E 107 = ⟨.ptr 24, 1, 8, .nilp⟩ := rfl
theorem E108 : E 108 = ⟨.fn, 1, 8, .nilf⟩ := rfl
theorem E109 : E 109 = ⟨.ptr 111, 1, 8, .nilp⟩ := rfl
theorem E110 : E 110 = ⟨.st [(0, 24), (1, 4)], 2, 32, .st [.nil, .bool false]⟩ := rfl
theorem E111 : E 111 = ⟨.st [(0, 24), (1, 4)], 2, 32, .st [.nil, .bool false]⟩ := rfl
theorem E112 : E 112 = ⟨.fn, 1, 8, .nilf⟩ := rfl
theorem E113 : E 113 = ⟨.fn, 1, 8, .nilf⟩ := rfl
theorem E114 : E 114 = ⟨.fn, 1, 8, .nilf⟩ := rfl
theorem E116 : E 116 = ⟨.fn, 1, 8, .nilf⟩ := rfl
theorem E118 : E 118 = ⟨.fn, 1, 8, .nilf⟩ := rfl
theorem E119 : E 119 = ⟨.fn, 1, 8, .nilf⟩ := rfl
theorem E120 : E 120 = ⟨.fn, 1, 8, .nilf⟩ := rfl
theorem E121 : E 121 = ⟨.fn, 1, 8, .nilf⟩ := rfl
theorem E122 : E 122 = ⟨.ptr 42, 1, 8, .nilp⟩ := rfl
theorem E123 : E 123 = ⟨.ptr 40, 1, 8, .nilp⟩ := rfl
theorem E124 : E 124 = ⟨.ptr 4, 1, 8, .nilp⟩ := rfl
theorem E125 : E 125 = ⟨.fn, 1, 8, .nilf⟩ := rfl
theorem E126 : E 126 = ⟨.fn, 1, 8, .nilf⟩ := rfl
theorem E127 : E 127 = ⟨.ptr 65, 1, 8, .nilp⟩ := rfl
theorem E128 : E 128 = ⟨.fn, 1, 8, .nilf⟩ := rfl
theorem E129 : E 129 = ⟨.fn, 1, 8, .nilf⟩ := rfl
theorem E130 : E 130 = ⟨.fn, 1, 8, .nilf⟩ := rfl
theorem E131 : E 131 = ⟨.arr 9 4, 9, 9, .ar 9 1 (zar 9 (.bool false))⟩ := rfl
theorem E132 : E 132 = ⟨.fn, 1, 8, .nilf⟩ := rfl
theorem E133 : E 133 = ⟨.fn, 1, 8, .nilf⟩ := rfl
theorem E134 : E 134 = ⟨.fn, 1, 8, .nilf⟩ := rfl
theorem E135 : E 135 = ⟨.fn, 1, 8, .nilf⟩ := rfl
theorem E136 : E 136 = ⟨.fn, 1, 8, .nilf⟩ := rfl
theorem E137 : E 137 = ⟨.ptr 3, 1, 8, .nilp⟩ := rfl
theorem E138 : E 138 = ⟨.fn, 1, 8, .nilf⟩ := rfl
theorem E139 : E 139 = ⟨.fn, 1, 8, .nilf⟩ := rfl
theorem E140 : E 140 = ⟨.int .u64, 1, 8, .int .u64 0⟩ := rfl
theorem E141 : E 141 = ⟨.fn, 1, 8, .nilf⟩ := rfl
theorem E142 : E 142 = ⟨.fn, 1, 8, .nilf⟩ := rfl
theorem E143 : E 143 = ⟨.fn, 1, 8, .nilf⟩ := rfl
theorem E144 : E 144 = ⟨.int .u16, 1, 2, .int .u16 0⟩ := rfl
theorem E145 : E 145 = ⟨.fn, 1, 8, .nilf⟩ := rfl
theorem E147 : E 147 = ⟨.fn, 1, 8, .nilf⟩ := rfl
theorem E148 : E 148 = ⟨.fn, 1, 8, .nilf⟩ := rfl
theorem E150 : E 150 = ⟨.fn, 1, 8, .nilf⟩ := rfl
theorem E151 : E 151 = ⟨.fn, 1, 8, .nilf⟩ := rfl
theorem E157 : E 157 = ⟨.fn, 1, 8, .nilf⟩ := rfl
theorem E161 : E 161 = ⟨.ptr 5, 1, 8, .nilp⟩ := rfl
def ES := And.intro @E1 <| And.intro @E2 <| And.intro @E3 <| And.intro @E4 <| And.intro @E5 <| And.intro @E9 <| And.intro @E12 <| And.intro @E17 <| And.intro @E21 <| And.intro @E22 <| And.intro @E23 <| And.intro @E24 <| And.intro @E25 <| And.intro @E26 <| And.intro @E27 <| And.intro @E28 <| And.intro @E30 <| And.intro @E31 <| And.intro @E32 <| And.intro @E33 <| And.intro @E35 <| And.intro @E37 <| And.intro @E38 <| And.intro @E39 <| And.intro @E40 <| And.intro @E41 <| And.intro @E42 <| And.intro @E43 <| And.intro @E44 <| And.intro @E45 <| And.intro @E46 <| And.intro @E47 <| And.intro @E49 <| And.intro @E50 <| And.intro @E51 <| And.intro @E52 <| And.intro @E54 <| And.intro @E55 <| And.intro @E56 <| And.intro @E57 <| And.intro @E58 <| And.intro @E59 <| And.intro @E60 <| And.intro @E61 <| And.intro @E62 <| And.intro @E63 <| And.intro @E64 <| And.intro @E65 <| And.intro @E66 <| And.intro @E67 <| And.intro @E68 <| And.intro @E69 <| And.intro @E70 <| And.intro @E71 <| And.intro @E72 <| And.intro @E73 <| And.intro @E74 <| And.intro @E75 <| And.intro @E76 <| And.intro @E77 <| And.intro @E78 <| And.intro @E79 <| And.intro @E80 <| And.intro @E81 <| And.intro @E82 <| And.intro @E84 <| And.intro @E85 <| And.intro @E86 <| And.intro @E87 <| And.intro @E88 <| And.intro @E89 <| And.intro @E90 <| And.intro @E91 <| And.intro @E92 <| And.intro @E93 <| And.intro @E94 <| And.intro @E95 <| And.intro @E97 <| And.intro @E98 <| And.intro @E99 <| And.intro @E100 <| And.intro @E101 <| And.intro @E102 <| And.intro @E103 <| And.intro @E104 <| And.intro @E105 <| And.intro @E106 <| And.intro @E107 <| And.intro @E108 <| And.intro @E109 <| And.intro @E110 <| And.intro @E111 <| And.intro @E112 <| And.intro @E113 <| And.intro @E114 <| And.intro @E116 <| And.intro @E118 <| And.intro @E119 <| And.intro @E120 <| And.intro @E121 <| And.intro @E122 <| And.intro @E123 <| And.intro @E124 <| And.intro @E125 <| And.intro @E126 <| And.intro @E127 <| And.intro @E128 <| And.intro @E129 <| And.intro @E130 <| And.intro @E131 <| And.intro @E132 <| And.intro @E133 <| And.intro @E134 <| And.intro @E135 <| And.intro @E136 <| And.intro @E137 <| And.intro @E138 <| And.intro @E139 <| And.intro @E140 <| And.intro @E141 <| And.intro @E142 <| And.intro @E143 <| And.intro @E144 <| And.intro @E145 <| And.intro @E147 <| And.intro @E148 <| And.intro @E150 <| And.intro @E151 <| And.intro @E157 <| @E161
def eqq : List TypeId := [9, 22, 41, 42, 44, 62, 63, 64, 65, 86, 99, 131]
theorem X_ok : XOk Try.prog E eqq := ⟨E_ok, B_ok, fitOk_of (by kernel_rfl), eqsB_ok (by kernel_rfl)⟩
def W := And.intro FWA ES
theorem mix : Try.prog.follows .mixedOrders = true := by kernel_rfl
structure CT (gl : GCalls) (keep : List Nat) (ds : List (Nat × List Info)) : Prop where
 cl : GClOk Try.prog gl
def lkD (id : Nat) : List (Nat × List Info) → Option (List Info)
 | [] => none
 | (i, l) :: r => if i = id then some l else lkD id r
section
variable {gl : GCalls} {keep : List Nat} {ds : List (Nat × List Info)} {kp N id : Nat} {l : List Oper} {Q : Exit → AS → Prop} {S S' : AS}
theorem AWP.rK (ct : CT gl keep ds) (h : gopsP E eqq gl N keep l S = some S') (hQ : Q .normal S') : AWP kp Try.prog N (.region id l.toArray false) Q S := AWP.greg X_ok ct.cl keep h hQ
theorem AWP.dK (ct : CT gl keep ds) {fs : List Info} (hl : lkD id ds = some fs) (hdep : dOk l fs = true) (h : drunP E eqq gl N keep l fs S = some S') (hQ : Q .normal S') : AWP kp Try.prog N (.region id l.toArray true) Q S :=
 AWP.gdraw X_ok ct.cl keep mix fs hdep h hQ
theorem AWP.cT {cd : Operand} {x y : Code} {b : Bool} (hc : ev S.s cd = .t (.bool b)) (hb : b = true) (ht : AWP kp Try.prog N x Q S) : AWP kp Try.prog N (.cond cd x y) Q S := AWP.condT (by rw [hc, hb]) ht
theorem AWP.cF {cd : Operand} {x y : Code} {b : Bool} (hc : ev S.s cd = .t (.bool b)) (hb : b = false) (hf : AWP kp Try.prog N y Q S) : AWP kp Try.prog N (.cond cd x y) Q S := AWP.condF (by rw [hc, hb]) hf
end
def BL := And.intro @decide_eq_true_eq <| And.intro @decide_eq_false_iff_not <| And.intro @Bool.not_eq_true' <| And.intro @Bool.not_eq_false' <| And.intro @Bool.and_eq_true <| And.intro @Bool.or_eq_true <| And.intro @Bool.or_eq_false_iff <| And.intro @Bool.and_eq_false_iff <| @ne_eq.{1}
theorem Ev {F : Prop} (hF : F) {α : Type} {a b : α} (h : F → a = b := by (intro hF; (repeat (first | simp only [W, eqq, ↓reduceIte, Nat.reduceEqDiff, Nat.reduceLT, Nat.reduceLeDiff, Nat.reduceAdd, Nat.reduceMul, Nat.reduceSub, Nat.reduceBEq, Int.reduceLE, Int.reduceLT, Int.reduceNeg, Int.reduceToNat, Int.reduceEq, Int.reduceBEq, Int.reduceBNe, Nat.reduceBNe, bne_self_eq_false, reduceCtorEq, gt_iff_lt, ge_iff_le, hF] | (rewrite [if_pos]; rotate_left; focus (first | omega | (simp only [LN, hF]; omega) | (refine ⟨?_, ?_⟩ <;> (simp only [LN, hF] <;> omega)))) | (rewrite [if_neg]; rotate_left; focus (first | omega | (simp only [LN, hF]; omega) | (refine ⟨?_, ?_⟩ <;> (simp only [LN, hF] <;> omega)))) | simp (disch := omega) only [wrap_i64, wrap_u64])); with_reducible rfl)) : a = b := h hF
structure KB (B : Prop) : Prop where
 out : B
theorem St {F : Prop} (hF : F) {gl : GCalls} {keep : List Nat} {ds : List (Nat × List Info)} (ct : CT gl keep ds) {A B : Prop} (k : B) (h : F → CT gl keep ds → KB B → A := by
 (intro hF ct hk; (first
   | refine AWP.seq ?_
   | refine AWP.block ?_
   | (refine AWP.rK ct (Ev hF) ?_; try show AWP _ _ _ _ _ _)
   | (refine AWP.condT ?_ ?_; focus (simp only [W, eqq, ↓reduceIte, Nat.reduceEqDiff, Nat.reduceLT, Nat.reduceLeDiff, Nat.reduceAdd, Nat.reduceMul, Nat.reduceSub, Nat.reduceBEq, Int.reduceLE, Int.reduceLT, Int.reduceNeg, Int.reduceToNat, Int.reduceEq, Int.reduceBEq, Int.reduceBNe, Nat.reduceBNe, bne_self_eq_false, reduceCtorEq, gt_iff_lt, ge_iff_le, hF]; done))
   | (refine AWP.condF ?_ ?_; focus (simp only [W, eqq, ↓reduceIte, Nat.reduceEqDiff, Nat.reduceLT, Nat.reduceLeDiff, Nat.reduceAdd, Nat.reduceMul, Nat.reduceSub, Nat.reduceBEq, Int.reduceLE, Int.reduceLT, Int.reduceNeg, Int.reduceToNat, Int.reduceEq, Int.reduceBEq, Int.reduceBNe, Nat.reduceBNe, bne_self_eq_false, reduceCtorEq, gt_iff_lt, ge_iff_le, hF]; done))
   | (refine AWP.cT (by simp only [W, eqq, ↓reduceIte, Nat.reduceEqDiff, Nat.reduceLT, Nat.reduceLeDiff, Nat.reduceAdd, Nat.reduceMul, Nat.reduceSub, Nat.reduceBEq, Int.reduceLE, Int.reduceLT, Int.reduceNeg, Int.reduceToNat, Int.reduceEq, Int.reduceBEq, Int.reduceBNe, Nat.reduceBNe, bne_self_eq_false, reduceCtorEq, gt_iff_lt, ge_iff_le, hF]; with_reducible rfl) (by simp only [BL, beq_iff_eq, bne_iff_ne, beq_eq_false_iff_ne, bne_eq_false_iff_eq]; omega) ?_)
   | (refine AWP.cF (by simp only [W, eqq, ↓reduceIte, Nat.reduceEqDiff, Nat.reduceLT, Nat.reduceLeDiff, Nat.reduceAdd, Nat.reduceMul, Nat.reduceSub, Nat.reduceBEq, Int.reduceLE, Int.reduceLT, Int.reduceNeg, Int.reduceToNat, Int.reduceEq, Int.reduceBEq, Int.reduceBNe, Nat.reduceBNe, bne_self_eq_false, reduceCtorEq, gt_iff_lt, ge_iff_le, hF]; with_reducible rfl) (by simp only [BL, beq_iff_eq, bne_iff_ne, beq_eq_false_iff_ne, bne_eq_false_iff_eq]; omega) ?_)
   | (refine AWP.skip ?_; try show AWP _ _ _ _ _ _)
   | (refine AWP.exit ?_; try show AWP _ _ _ _ _ _)
   | (refine AWP.dK ct (by rfl) (by kernel_rfl) (Ev hF) ?_; try show AWP _ _ _ _ _ _)); exact hk.out)) : A := h hF ct ⟨k⟩
theorem Wt {F : Prop} (hF : F) (ks ids : List Nat) {kp N : Nat} {S S' : AS} (hok : okIds kp ids := by first | decide | (show okIds 0 _; decide) | (show okIds 1 _; decide) | (show okIds 2 _; decide) | (show okIds 3 _; decide) | (show okIds 4 _; decide))
   (h : F → S.norm ks ids = S' := by (intro hF; first | (simp only [W, eqq, ↓reduceIte, Nat.reduceEqDiff, Nat.reduceLT, Nat.reduceLeDiff, Nat.reduceAdd, Nat.reduceMul, Nat.reduceSub, Nat.reduceBEq, Int.reduceLE, Int.reduceLT, Int.reduceNeg, Int.reduceToNat, Int.reduceEq, Int.reduceBEq, Int.reduceBNe, Nat.reduceBNe, bne_self_eq_false, reduceCtorEq, gt_iff_lt, ge_iff_le, hF]; done) | (simp only [W, eqq, ↓reduceIte, Nat.reduceEqDiff, Nat.reduceLT, Nat.reduceLeDiff, Nat.reduceAdd, Nat.reduceMul, Nat.reduceSub, Nat.reduceBEq, Int.reduceLE, Int.reduceLT, Int.reduceNeg, Int.reduceToNat, Int.reduceEq, Int.reduceBEq, Int.reduceBNe, Nat.reduceBNe, bne_self_eq_false, reduceCtorEq, gt_iff_lt, ge_iff_le, hF]; rfl) | (simp only [W, eqq, ↓reduceIte, Nat.reduceEqDiff, Nat.reduceLT, Nat.reduceLeDiff, Nat.reduceAdd, Nat.reduceMul, Nat.reduceSub, Nat.reduceBEq, Int.reduceLE, Int.reduceLT, Int.reduceNeg, Int.reduceToNat, Int.reduceEq, Int.reduceBEq, Int.reduceBNe, Nat.reduceBNe, bne_self_eq_false, reduceCtorEq, gt_iff_lt, ge_iff_le, hF, Int.natCast_add, Int.cast_ofNat_Int]; done))) : Weak kp N S S' := Weak.to ks ids hok (h hF)
theorem Fin {F : Prop} (hF : F) (fz ids : List Nat) {rs : List RS} {kp : Nat} {H : List Blk} {r : AV} {e : Exit} {S : AS} (he : e = .normal ∨ e = .ret := by first | exact .inl rfl | exact .inr rfl) (hok : okIds kp ids := by first | decide | (show okIds 0 _; decide) | (show okIds 1 _; decide) | (show okIds 2 _; decide) | (show okIds 3 _; decide) | (show okIds 4 _; decide))
   (h : F → cres E rs (freezeOnes S.H fz) S.s ids = some (H, r) := by (intro hF; first | (simp only [cres, resVals, RS.val, thawV, freezeOnes, freezeOne, renH, one, AV.ren, AV.renL, Blk.ren, W, eqq, ↓reduceIte, Nat.reduceEqDiff, Nat.reduceLT, Nat.reduceLeDiff, Nat.reduceAdd, Nat.reduceMul, Nat.reduceSub, Nat.reduceBEq, Int.reduceLE, Int.reduceLT, Int.reduceNeg, Int.reduceToNat, Int.reduceEq, Int.reduceBEq, Int.reduceBNe, Nat.reduceBNe, bne_self_eq_false, reduceCtorEq, gt_iff_lt, ge_iff_le, hF]; done) | (simp only [cres, resVals, RS.val, thawV, freezeOnes, freezeOne, renH, one, AV.ren, AV.renL, Blk.ren, W, eqq, ↓reduceIte, Nat.reduceEqDiff, Nat.reduceLT, Nat.reduceLeDiff, Nat.reduceAdd, Nat.reduceMul, Nat.reduceSub, Nat.reduceBEq, Int.reduceLE, Int.reduceLT, Int.reduceNeg, Int.reduceToNat, Int.reduceEq, Int.reduceBEq, Int.reduceBNe, Nat.reduceBNe, bne_self_eq_false, reduceCtorEq, gt_iff_lt, ge_iff_le, hF]; rfl))) : cretQ E rs kp H r e S := ⟨he, fz, ids, hok, h hF⟩
theorem Wn {kp N : Nat} {S : AS} {v v' : AV} (i : Nat) (p : List Nat) (o : Nat) (B : T) (hi : S.H[i]? = some (.bx v) := by rfl) (hg : AV.get v p = some (.t .nil) := by (simp only [W, eqq, ↓reduceIte, Nat.reduceEqDiff, Nat.reduceLT, Nat.reduceLeDiff, Nat.reduceAdd, Nat.reduceMul, Nat.reduceSub, Nat.reduceBEq, Int.reduceLE, Int.reduceLT, Int.reduceNeg, Int.reduceToNat, Int.reduceEq, Int.reduceBEq, Int.reduceBNe, Nat.reduceBNe, bne_self_eq_false, reduceCtorEq, gt_iff_lt, ge_iff_le])) (ho : AV.off v p = some o := by (simp only [W, eqq, ↓reduceIte, Nat.reduceEqDiff, Nat.reduceLT, Nat.reduceLeDiff, Nat.reduceAdd, Nat.reduceMul, Nat.reduceSub, Nat.reduceBEq, Int.reduceLE, Int.reduceLT, Int.reduceNeg, Int.reduceToNat, Int.reduceEq, Int.reduceBEq, Int.reduceBNe, Nat.reduceBNe, bne_self_eq_false, reduceCtorEq, gt_iff_lt, ge_iff_le])) (hs' : AV.set v p (.t B) = some v' := by (simp only [W, eqq, ↓reduceIte, Nat.reduceEqDiff, Nat.reduceLT, Nat.reduceLeDiff, Nat.reduceAdd, Nat.reduceMul, Nat.reduceSub, Nat.reduceBEq, Int.reduceLE, Int.reduceLT, Int.reduceNeg, Int.reduceToNat, Int.reduceEq, Int.reduceBEq, Int.reduceBNe, Nat.reduceBNe, bne_self_eq_false, reduceCtorEq, gt_iff_lt, ge_iff_le]; rfl))
   (hB : B = .by [] ∨ ∃ sz, 0 < sz ∧ B = .sq sz [] := by first | exact .inl rfl | exact .inr ⟨_, by decide, rfl⟩) : Weak kp N S ⟨S.s, S.H.set i (.bx v')⟩ := Weak.nilBx i p o B hi hg ho hs' hB
theorem Wo {kp N : Nat} {S : AS} (i : Nat) (B : Blk) (hi : lk i S.s = .t .nil := by (simp only [W, eqq, ↓reduceIte, Nat.reduceEqDiff, Nat.reduceLT, Nat.reduceLeDiff, Nat.reduceAdd, Nat.reduceMul, Nat.reduceSub, Nat.reduceBEq, Int.reduceLE, Int.reduceLT, Int.reduceNeg, Int.reduceToNat, Int.reduceEq, Int.reduceBEq, Int.reduceBNe, Nat.reduceBNe, bne_self_eq_false, reduceCtorEq, gt_iff_lt, ge_iff_le])) (hB : B = .by [] ∨ ∃ sz, 0 < sz ∧ B = .sq sz [] := by first | exact .inl rfl | exact .inr ⟨_, by decide, rfl⟩) : Weak kp N S ⟨(i, .own S.H.length) :: S.s, S.H ++ [B]⟩ := Weak.own i B hi hB
theorem AWP.nK {gl : GCalls} {keep : List Nat} {ds : List (Nat × List Info)} {kp N id d j : Nat} {l : List Oper} {o : Oper} {t t' e : TypeId} {b : List UInt8} {Q : Exit → AS → Prop} {S S1 : AS} {F : Prop} (hF : F) (ct : CT gl keep ds)
   (hQ : ∀ r : Bool, (r = true → b = []) → Q .normal ⟨prune keep ((d, .t (.bool r)) :: S1.s), S1.H⟩)
   (hop : o.op = .binOp .eql t (.tmp j) (.const (.slice none 0 0)) t' := by rfl) (hd : o.dst = some d := by rfl) (hdN : d < N := by decide) (ht : (E t).ty = .sl e := by rfl)
   (h : F → gops E eqq gl N (l ++ [o]) l S = some S1 := by (intro hF; simp only [W, eqq, ↓reduceIte, Nat.reduceEqDiff, Nat.reduceLT, Nat.reduceLeDiff, Nat.reduceAdd, Nat.reduceMul, Nat.reduceSub, Nat.reduceBEq, Int.reduceLE, Int.reduceLT, Int.reduceNeg, Int.reduceToNat, Int.reduceEq, Int.reduceBEq, Int.reduceBNe, Nat.reduceBNe, bne_self_eq_false, reduceCtorEq, gt_iff_lt, ge_iff_le, hF]; with_reducible rfl)) (hw : wantA (l ++ [o]) S1.s o = some true := by rfl) (hsl : lk j S1.s = .t (.by b) := by rfl) :
   AWP kp Try.prog N (.region id (l ++ [o]).toArray false) Q S := AWP.gnil X_ok ct.cl keep hop hd hdN ht (h hF) hw hsl hQ
end Go.Fw

end
