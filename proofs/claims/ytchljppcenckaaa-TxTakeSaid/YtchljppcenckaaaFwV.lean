/- The abstract machine, and the contracts of the code: part 42. -/
import Derived.Test.YtchljppcenckaaaFwY

section
/- Numbers of 32 and 64 bits: what the machine reckons, as Lean's own. -/
namespace Go.Fw
open Go
set_option linter.unusedVariables false
set_option linter.unusedSimpArgs false
set_option linter.defProp false

theorem bits_u32 : IntKind.u32.bits = 32 := rfl
theorem bits_u64 : IntKind.u64.bits = 64 := rfl
theorem bits_u8 : IntKind.u8.bits = 8 := rfl

theorem wrapu32 (n : Int) : IntKind.u32.wrap n = n % 4294967296 := by
  simp only [IntKind.wrap, IntKind.signed, IntKind.bits]; simp
theorem wrapu64 (n : Int) : IntKind.u64.wrap n = n % 18446744073709551616 := by
  simp only [IntKind.wrap, IntKind.signed, IntKind.bits]; simp
theorem wrapu8 (n : Int) : IntKind.u8.wrap n = n % 256 := by
  simp only [IntKind.wrap, IntKind.signed, IntKind.bits]; simp

section
variable (x y : UInt32)

theorem u32_add : IntKind.u32.wrap ((x.toNat : Int) + (y.toNat : Int)) = ((x + y).toNat : Int) := by
  rw [wrapu32, UInt32.toNat_add]; omega
theorem u32_sub : IntKind.u32.wrap ((x.toNat : Int) - (y.toNat : Int)) = ((x - y).toNat : Int) := by
  have := x.toNat_lt; have := y.toNat_lt
  rw [wrapu32, UInt32.toNat_sub]; omega
theorem u32_mul : IntKind.u32.wrap ((x.toNat : Int) * (y.toNat : Int)) = ((x * y).toNat : Int) := by
  rw [wrapu32, UInt32.toNat_mul, ← Int.natCast_mul]; generalize x.toNat * y.toNat = m; omega

theorem ab32 (op : Nat → Nat → Nat) : ((x.toNat : Int) % 2 ^ IntKind.u32.bits).toNat = x.toNat := by
  have h := x.toNat_lt
  rw [bits_u32]
  have e : (2 : Int) ^ 32 = 4294967296 := by decide
  have e' : (2 : Nat) ^ 32 = 4294967296 := by decide
  rw [e]; rw [e'] at h; omega

theorem wrapu32_lt {n : Nat} (h : n < 4294967296) : IntKind.u32.wrap (n : Int) = (n : Int) := by rw [wrapu32]; omega

theorem u32_and : abits .and .u32 (x.toNat : Int) (y.toNat : Int) = ((x &&& y).toNat : Int) := by
  simp only [abits, ab32 x (· + ·), ab32 y (· + ·), UInt32.toNat_and]
  exact wrapu32_lt (Nat.lt_of_le_of_lt Nat.and_le_left x.toNat_lt)
theorem u32_or : abits .or .u32 (x.toNat : Int) (y.toNat : Int) = ((x ||| y).toNat : Int) := by
  simp only [abits, ab32 x (· + ·), ab32 y (· + ·), UInt32.toNat_or]
  exact wrapu32_lt (Nat.or_lt_two_pow (n := 32) x.toNat_lt y.toNat_lt)
theorem u32_xor : abits .xor .u32 (x.toNat : Int) (y.toNat : Int) = ((x ^^^ y).toNat : Int) := by
  simp only [abits, ab32 x (· + ·), ab32 y (· + ·), UInt32.toNat_xor]
  exact wrapu32_lt (Nat.xor_lt_two_pow (n := 32) x.toNat_lt y.toNat_lt)
theorem u32_ff : (4294967295 : Int) = (((4294967295 : UInt32)).toNat : Int) := by decide
theorem u32_not : abits .xor .u32 (if IntKind.u32.signed = true then -1 else IntKind.u32.max) (x.toNat : Int) = ((~~~x).toNat : Int) := by
  have e : (if IntKind.u32.signed = true then (-1 : Int) else IntKind.u32.max) = (((4294967295 : UInt32)).toNat : Int) := by decide
  rw [e, u32_xor]
  have : (4294967295 : UInt32) = -1 := by decide
  rw [this, UInt32.neg_one_xor]
theorem u32_xff : abits .xor .u32 (x.toNat : Int) 4294967295 = ((~~~x).toNat : Int) := by
  rw [u32_ff, u32_xor]
  have : (4294967295 : UInt32) = -1 := by decide
  rw [this, UInt32.xor_neg_one]

theorem u32_shr (n : Nat) (h : n < 32) : Int.fdiv (x.toNat : Int) (2 ^ (min n IntKind.u32.bits)) = ((x >>> UInt32.ofNat n).toNat : Int) := by
  have e : min n IntKind.u32.bits = n := by rw [bits_u32]; omega
  rw [e, UInt32.toNat_shiftRight]
  have e2 : (UInt32.ofNat n).toNat % 32 = n := by simp [UInt32.toNat_ofNat]; omega
  rw [e2, Int.fdiv_eq_ediv_of_nonneg _ (by exact_mod_cast Nat.zero_le _), Nat.shiftRight_eq_div_pow]
  norm_cast
theorem u32_shl (n : Nat) (h : n < 32) : IntKind.u32.wrap ((x.toNat : Int) * 2 ^ (min n IntKind.u32.bits)) = ((x <<< UInt32.ofNat n).toNat : Int) := by
  have e : min n IntKind.u32.bits = n := by rw [bits_u32]; omega
  rw [e, UInt32.toNat_shiftLeft]
  have e2 : (UInt32.ofNat n).toNat % 32 = n := by simp [UInt32.toNat_ofNat]; omega
  rw [e2, wrapu32, Nat.shiftLeft_eq]
  have e3 : (x.toNat : Int) * 2 ^ n = ((x.toNat * 2 ^ n : Nat) : Int) := by rw [Int.natCast_mul, Int.natCast_pow]; rfl
  rw [e3]
  generalize x.toNat * 2 ^ n = m; omega

theorem u32_of_u8 (c : UInt8) : IntKind.u32.wrap (c.toNat : Int) = (c.toUInt32.toNat : Int) := by
  have := c.toNat_lt
  rw [wrapu32, UInt8.toNat_toUInt32]; omega
theorem u8_of_u32 : IntKind.u8.wrap (x.toNat : Int) = (x.toUInt8.toNat : Int) := by
  rw [wrapu8, UInt32.toNat_toUInt8]; omega
end

end Go.Fw

end
