/- The abstract machine, and the contracts of the code: part 39. -/
import Derived.Test.YtjepppdninejdaaProg
import Derived.Test.YtjepppdninejdaaFwY

section
/- The table of this program's types, and that the program bears it. -/
namespace Go.Fw
set_option linter.unusedVariables false
open Go Go.Proofs

set_option maxRecDepth 20000
set_option linter.defProp false

def tbl : Tbl := [(2, ⟨.int .i64, 1, 8, .int .i64 0⟩),
  (3, ⟨.int .i64, 1, 8, .int .i64 0⟩),
  (4, ⟨.bool, 1, 1, .bool false⟩),
  (5, ⟨.int .u8, 1, 1, .int .u8 0⟩),
  (9, ⟨.str, 1, 16, .str []⟩),
  (12, ⟨.int .u64, 1, 8, .int .u64 0⟩),
  (17, ⟨.ptr 89, 1, 8, .nilp⟩),
  (21, ⟨.int .i32, 1, 4, .int .i32 0⟩),
  (22, ⟨.sl 5, 1, 24, .nil⟩),
  (24, ⟨.ptr 59, 1, 8, .nilp⟩),
  (25, ⟨.int .i64, 1, 8, .int .i64 0⟩),
  (32, ⟨.sl 3, 1, 24, .nil⟩),
  (36, ⟨.sl 38, 1, 24, .nil⟩),
  (37, ⟨.st [(0, 3), (1, 3), (2, 22), (3, 4), (4, 32)], 5, 72, .st [.int .i64 0, .int .i64 0, .nil, .bool false, .nil]⟩),
  (38, ⟨.st [(0, 3), (1, 3), (2, 22), (3, 4), (4, 32)], 5, 72, .st [.int .i64 0, .int .i64 0, .nil, .bool false, .nil]⟩),
  (44, ⟨.sl 9, 1, 24, .nil⟩),
  (45, ⟨.sl 70, 1, 24, .nil⟩),
  (46, ⟨.st [(0, 44), (1, 45), (2, 3), (3, 4)], 4, 64, .st [.nil, .nil, .int .i64 0, .bool false]⟩),
  (47, ⟨.st [(0, 44), (1, 45), (2, 3), (3, 4)], 4, 64, .st [.nil, .nil, .int .i64 0, .bool false]⟩),
  (56, ⟨.sl 62, 1, 24, .nil⟩),
  (57, ⟨.sl 64, 1, 24, .nil⟩),
  (58, ⟨.st [(0, 56), (1, 56), (2, 57), (3, 3), (4, 4)], 5, 88, .st [.nil, .nil, .nil, .int .i64 0, .bool false]⟩),
  (59, ⟨.st [(0, 56), (1, 56), (2, 57), (3, 3), (4, 4)], 5, 88, .st [.nil, .nil, .nil, .int .i64 0, .bool false]⟩),
  (61, ⟨.arr 128 5, 128, 128, .ba 128 (zby 128)⟩),
  (62, ⟨.arr 128 5, 128, 128, .ba 128 (zby 128)⟩),
  (63, ⟨.st [(0, 3), (1, 62)], 129, 136, .st [.int .i64 0, .ba 128 (zby 128)]⟩),
  (64, ⟨.st [(0, 3), (1, 62)], 129, 136, .st [.int .i64 0, .ba 128 (zby 128)]⟩),
  (69, ⟨.st [(0, 3), (1, 9)], 2, 24, .st [.int .i64 0, .str []]⟩),
  (70, ⟨.st [(0, 3), (1, 9)], 2, 24, .st [.int .i64 0, .str []]⟩),
  (81, ⟨.int .u32, 1, 4, .int .u32 0⟩),
  (85, ⟨.ptr 5, 1, 8, .nilp⟩)]

def E : Env := envOf tbl

theorem tbl_ok : tblB Try.prog tbl = true := by kernel_rfl

theorem E_ok : EnvOk Try.prog E := envOf_ok tbl_ok

theorem B_ok : ByteOk E := byteOk_of (by kernel_rfl)

theorem E2 : E 2 = ⟨.int .i64, 1, 8, .int .i64 0⟩ := rfl
theorem E3 : E 3 = ⟨.int .i64, 1, 8, .int .i64 0⟩ := rfl
theorem E4 : E 4 = ⟨.bool, 1, 1, .bool false⟩ := rfl
theorem E5 : E 5 = ⟨.int .u8, 1, 1, .int .u8 0⟩ := rfl
theorem E9 : E 9 = ⟨.str, 1, 16, .str []⟩ := rfl
theorem E12 : E 12 = ⟨.int .u64, 1, 8, .int .u64 0⟩ := rfl
theorem E17 : E 17 = ⟨.ptr 89, 1, 8, .nilp⟩ := rfl
theorem E21 : E 21 = ⟨.int .i32, 1, 4, .int .i32 0⟩ := rfl
theorem E22 : E 22 = ⟨.sl 5, 1, 24, .nil⟩ := rfl
theorem E24 : E 24 = ⟨.ptr 59, 1, 8, .nilp⟩ := rfl
theorem E25 : E 25 = ⟨.int .i64, 1, 8, .int .i64 0⟩ := rfl
theorem E32 : E 32 = ⟨.sl 3, 1, 24, .nil⟩ := rfl
theorem E36 : E 36 = ⟨.sl 38, 1, 24, .nil⟩ := rfl
theorem E37 : E 37 = ⟨.st [(0, 3), (1, 3), (2, 22), (3, 4), (4, 32)], 5, 72, .st [.int .i64 0, .int .i64 0, .nil, .bool false, .nil]⟩ := rfl
theorem E38 : E 38 = ⟨.st [(0, 3), (1, 3), (2, 22), (3, 4), (4, 32)], 5, 72, .st [.int .i64 0, .int .i64 0, .nil, .bool false, .nil]⟩ := rfl
theorem E44 : E 44 = ⟨.sl 9, 1, 24, .nil⟩ := rfl
theorem E45 : E 45 = ⟨.sl 70, 1, 24, .nil⟩ := rfl
theorem E46 : E 46 = ⟨.st [(0, 44), (1, 45), (2, 3), (3, 4)], 4, 64, .st [.nil, .nil, .int .i64 0, .bool false]⟩ := rfl
theorem E47 : E 47 = ⟨.st [(0, 44), (1, 45), (2, 3), (3, 4)], 4, 64, .st [.nil, .nil, .int .i64 0, .bool false]⟩ := rfl
theorem E56 : E 56 = ⟨.sl 62, 1, 24, .nil⟩ := rfl
theorem E57 : E 57 = ⟨.sl 64, 1, 24, .nil⟩ := rfl
theorem E58 : E 58 = ⟨.st [(0, 56), (1, 56), (2, 57), (3, 3), (4, 4)], 5, 88, .st [.nil, .nil, .nil, .int .i64 0, .bool false]⟩ := rfl
theorem E59 : E 59 = ⟨.st [(0, 56), (1, 56), (2, 57), (3, 3), (4, 4)], 5, 88, .st [.nil, .nil, .nil, .int .i64 0, .bool false]⟩ := rfl
theorem E61 : E 61 = ⟨.arr 128 5, 128, 128, .ba 128 (zby 128)⟩ := rfl
theorem E62 : E 62 = ⟨.arr 128 5, 128, 128, .ba 128 (zby 128)⟩ := rfl
theorem E63 : E 63 = ⟨.st [(0, 3), (1, 62)], 129, 136, .st [.int .i64 0, .ba 128 (zby 128)]⟩ := rfl
theorem E64 : E 64 = ⟨.st [(0, 3), (1, 62)], 129, 136, .st [.int .i64 0, .ba 128 (zby 128)]⟩ := rfl
theorem E69 : E 69 = ⟨.st [(0, 3), (1, 9)], 2, 24, .st [.int .i64 0, .str []]⟩ := rfl
theorem E70 : E 70 = ⟨.st [(0, 3), (1, 9)], 2, 24, .st [.int .i64 0, .str []]⟩ := rfl
theorem E81 : E 81 = ⟨.int .u32, 1, 4, .int .u32 0⟩ := rfl
theorem E85 : E 85 = ⟨.ptr 5, 1, 8, .nilp⟩ := rfl
def ES := And.intro @E2 <| And.intro @E3 <| And.intro @E4 <| And.intro @E5 <| And.intro @E9 <| And.intro @E12 <| And.intro @E17 <| And.intro @E21 <| And.intro @E22 <| And.intro @E24 <| And.intro @E25 <| And.intro @E32 <| And.intro @E36 <| And.intro @E37 <| And.intro @E38 <| And.intro @E44 <| And.intro @E45 <| And.intro @E46 <| And.intro @E47 <| And.intro @E56 <| And.intro @E57 <| And.intro @E58 <| And.intro @E59 <| And.intro @E61 <| And.intro @E62 <| And.intro @E63 <| And.intro @E64 <| And.intro @E69 <| And.intro @E70 <| And.intro @E81 <| @E85

def eqq : List TypeId := [9, 61, 62, 63, 64, 69, 70]

theorem X_ok : XOk Try.prog E eqq := ⟨E_ok, B_ok, fitOk_of (by kernel_rfl), eqsB_ok (by kernel_rfl)⟩

def W := And.intro FWA ES

theorem mix : Try.prog.follows .mixedOrders = true := by kernel_rfl

end Go.Fw

end
