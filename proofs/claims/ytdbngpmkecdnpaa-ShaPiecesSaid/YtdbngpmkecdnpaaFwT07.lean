/- The abstract machine, and the contracts of the code: part 43. -/
import Derived.Test.YtdbngpmkecdnpaaProg
import Derived.Test.YtdbngpmkecdnpaaFwZ

section
/- The table of this program's types, and that the program bears it. -/
namespace Go.Fw
set_option linter.unusedVariables false
open Go Go.Proofs

set_option maxRecDepth 20000
set_option linter.defProp false

def tbl : Tbl := [(2, ⟨.int .i64, 1, 8, .int .i64 0⟩),
  (3, ⟨.int .i64, 1, 8, .int .i64 0⟩),
  (4, ⟨.bool, 1, 1, .bool false⟩),
  (5, ⟨.int .u8, 1, 1, .int .u8 0⟩),
  (9, ⟨.str, 1, 16, .str []⟩),
  (12, ⟨.int .u64, 1, 8, .int .u64 0⟩),
  (17, ⟨.ptr 75, 1, 8, .nilp⟩),
  (21, ⟨.int .i32, 1, 4, .int .i32 0⟩),
  (22, ⟨.sl 5, 1, 24, .nil⟩),
  (24, ⟨.arr 32 5, 32, 32, .ba 32 (zby 32)⟩),
  (28, ⟨.sl 22, 1, 24, .nil⟩),
  (29, ⟨.ptr 48, 1, 8, .nilp⟩),
  (33, ⟨.int .u64, 1, 8, .int .u64 0⟩),
  (38, ⟨.int .u32, 1, 4, .int .u32 0⟩),
  (39, ⟨.sl 38, 1, 24, .nil⟩),
  (43, ⟨.int .u64, 1, 8, .int .u64 0⟩),
  (44, ⟨.arr 8 38, 8, 32, .ar 8 1 (List.replicate 8 (.int .u32 0))⟩),
  (45, ⟨.arr 8 38, 8, 32, .ar 8 1 (List.replicate 8 (.int .u32 0))⟩),
  (47, ⟨.st [(0, 45), (8, 22), (9, 33)], 10, 64, .st [.ar 8 1 (List.replicate 8 (.int .u32 0)), .nil, .int .u64 0]⟩),
  (48, ⟨.st [(0, 45), (8, 22), (9, 33)], 10, 64, .st [.ar 8 1 (List.replicate 8 (.int .u32 0)), .nil, .int .u64 0]⟩),
  (50, ⟨.sl 33, 1, 24, .nil⟩),
  (53, ⟨.ptr 45, 1, 8, .nilp⟩),
  (54, ⟨.arr 64 38, 64, 256, .ar 64 1 (zar 64 (.int .u32 0))⟩),
  (71, ⟨.ptr 5, 1, 8, .nilp⟩)]

def E : Env := envOf tbl

theorem tbl_ok : tblB Try.prog tbl = true := by kernel_rfl

theorem E_ok : EnvOk Try.prog E := envOf_ok tbl_ok

theorem B_ok : ByteOk E := byteOk_of (by kernel_rfl)

theorem E2 : E 2 = ⟨.int .i64, 1, 8, .int .i64 0⟩ := rfl
theorem E3 : E 3 = ⟨.int .i64, 1, 8, .int .i64 0⟩ := rfl
theorem E4 : E 4 = ⟨.bool, 1, 1, .bool false⟩ := rfl
theorem E5 : E 5 = ⟨.int .u8, 1, 1, .int .u8 0⟩ := rfl
theorem E9 : E 9 = ⟨.str, 1, 16, .str []⟩ := rfl
theorem E12 : E 12 = ⟨.int .u64, 1, 8, .int .u64 0⟩ := rfl
theorem E17 : E 17 = ⟨.ptr 75, 1, 8, .nilp⟩ := rfl
theorem E21 : E 21 = ⟨.int .i32, 1, 4, .int .i32 0⟩ := rfl
theorem E22 : E 22 = ⟨.sl 5, 1, 24, .nil⟩ := rfl
theorem E24 : E 24 = ⟨.arr 32 5, 32, 32, .ba 32 (zby 32)⟩ := rfl
theorem E28 : E 28 = ⟨.sl 22, 1, 24, .nil⟩ := rfl
theorem E29 : E 29 = ⟨.ptr 48, 1, 8, .nilp⟩ := rfl
theorem E33 : E 33 = ⟨.int .u64, 1, 8, .int .u64 0⟩ := rfl
theorem E38 : E 38 = ⟨.int .u32, 1, 4, .int .u32 0⟩ := rfl
theorem E39 : E 39 = ⟨.sl 38, 1, 24, .nil⟩ := rfl
theorem E43 : E 43 = ⟨.int .u64, 1, 8, .int .u64 0⟩ := rfl
theorem E44 : E 44 = ⟨.arr 8 38, 8, 32, .ar 8 1 (List.replicate 8 (.int .u32 0))⟩ := rfl
theorem E45 : E 45 = ⟨.arr 8 38, 8, 32, .ar 8 1 (List.replicate 8 (.int .u32 0))⟩ := rfl
theorem E47 : E 47 = ⟨.st [(0, 45), (8, 22), (9, 33)], 10, 64, .st [.ar 8 1 (List.replicate 8 (.int .u32 0)), .nil, .int .u64 0]⟩ := rfl
theorem E48 : E 48 = ⟨.st [(0, 45), (8, 22), (9, 33)], 10, 64, .st [.ar 8 1 (List.replicate 8 (.int .u32 0)), .nil, .int .u64 0]⟩ := rfl
theorem E50 : E 50 = ⟨.sl 33, 1, 24, .nil⟩ := rfl
theorem E53 : E 53 = ⟨.ptr 45, 1, 8, .nilp⟩ := rfl
theorem E54 : E 54 = ⟨.arr 64 38, 64, 256, .ar 64 1 (zar 64 (.int .u32 0))⟩ := rfl
theorem E71 : E 71 = ⟨.ptr 5, 1, 8, .nilp⟩ := rfl
def ES := And.intro @E2 <| And.intro @E3 <| And.intro @E4 <| And.intro @E5 <| And.intro @E9 <| And.intro @E12 <| And.intro @E17 <| And.intro @E21 <| And.intro @E22 <| And.intro @E24 <| And.intro @E28 <| And.intro @E29 <| And.intro @E33 <| And.intro @E38 <| And.intro @E39 <| And.intro @E43 <| And.intro @E44 <| And.intro @E45 <| And.intro @E47 <| And.intro @E48 <| And.intro @E50 <| And.intro @E53 <| And.intro @E54 <| @E71

def eqq : List TypeId := [9, 24, 44, 45, 54]

theorem X_ok : XOk Try.prog E eqq := ⟨E_ok, B_ok, fitOk_of (by kernel_rfl), eqsB_ok (by kernel_rfl)⟩

def W := And.intro FWA ES

theorem mix : Try.prog.follows .mixedOrders = true := by kernel_rfl

end Go.Fw

end
