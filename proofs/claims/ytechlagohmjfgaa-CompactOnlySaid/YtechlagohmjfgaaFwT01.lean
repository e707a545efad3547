/- The table of this program's types, and that the program bears it. -/
import Derived.Test.YtechlagohmjfgaaFwN
import Derived.Test.YtechlagohmjfgaaProg
namespace Go.Fw
set_option linter.unusedVariables false
open Go Go.Proofs

def tbl : Tbl := [(2, ⟨.int .i64, 1, 8, .int .i64 0⟩),
  (3, ⟨.int .i64, 1, 8, .int .i64 0⟩),
  (4, ⟨.bool, 1, 1, .bool false⟩),
  (5, ⟨.int .u8, 1, 1, .int .u8 0⟩),
  (9, ⟨.str, 1, 16, .str []⟩),
  (12, ⟨.int .u64, 1, 8, .int .u64 0⟩),
  (17, ⟨.ptr 73, 1, 8, .nilp⟩),
  (21, ⟨.int .i32, 1, 4, .int .i32 0⟩),
  (22, ⟨.sl 5, 1, 24, .nil⟩),
  (23, ⟨.int .u64, 1, 8, .int .u64 0⟩),
  (27, ⟨.int .u32, 1, 4, .int .u32 0⟩),
  (31, ⟨.sl 22, 1, 24, .nil⟩),
  (36, ⟨.int .i64, 1, 8, .int .i64 0⟩),
  (54, ⟨.int .u16, 1, 2, .int .u16 0⟩),
  (58, ⟨.int .u64, 1, 8, .int .u64 0⟩),
  (69, ⟨.ptr 5, 1, 8, .nilp⟩)]

def E : Env := envOf tbl

theorem tbl_ok : tblB Try.prog tbl = true := by kernel_rfl

theorem E_ok : EnvOk Try.prog E := envOf_ok tbl_ok

theorem B_ok : ByteOk E := byteOk_of (by kernel_rfl)

theorem E2 : E 2 = ⟨.int .i64, 1, 8, .int .i64 0⟩ := rfl
theorem E3 : E 3 = ⟨.int .i64, 1, 8, .int .i64 0⟩ := rfl
theorem E4 : E 4 = ⟨.bool, 1, 1, .bool false⟩ := rfl
theorem E5 : E 5 = ⟨.int .u8, 1, 1, .int .u8 0⟩ := rfl
theorem E9 : E 9 = ⟨.str, 1, 16, .str []⟩ := rfl
theorem E12 : E 12 = ⟨.int .u64, 1, 8, .int .u64 0⟩ := rfl
theorem E17 : E 17 = ⟨.ptr 73, 1, 8, .nilp⟩ := rfl
theorem E21 : E 21 = ⟨.int .i32, 1, 4, .int .i32 0⟩ := rfl
theorem E22 : E 22 = ⟨.sl 5, 1, 24, .nil⟩ := rfl
theorem E23 : E 23 = ⟨.int .u64, 1, 8, .int .u64 0⟩ := rfl
theorem E27 : E 27 = ⟨.int .u32, 1, 4, .int .u32 0⟩ := rfl
theorem E31 : E 31 = ⟨.sl 22, 1, 24, .nil⟩ := rfl
theorem E36 : E 36 = ⟨.int .i64, 1, 8, .int .i64 0⟩ := rfl
theorem E54 : E 54 = ⟨.int .u16, 1, 2, .int .u16 0⟩ := rfl
theorem E58 : E 58 = ⟨.int .u64, 1, 8, .int .u64 0⟩ := rfl
theorem E69 : E 69 = ⟨.ptr 5, 1, 8, .nilp⟩ := rfl

end Go.Fw
