/- Proved here: a part of an abstract machine for the walks of this program, and that it tells the truth about the model. No condition. -/
import Derived.Test.YtjaklhbifgbiaaaAmZz
import Derived.IntWalk
set_option linter.unusedSimpArgs false
set_option linter.unusedVariables false
namespace Go.AM
open Go

/-! ## numbers as bits -/
def w8 (x : BitVec 8) : PV := .d (.lit (.int .u8 x.toNat))
def w32 (x : BitVec 32) : PV := .d (.lit (.int .u32 x.toNat))
def w64 (x : BitVec 64) : PV := .d (.lit (.int .u64 x.toNat))

theorem toNat_u8 (b : UInt8) : ((b.toNat : Nat) : Int) = ((b.toBitVec.toNat : Nat) : Int) := rfl

theorem ofInt_bv {n : Nat} (x : BitVec n) : BitVec.ofInt n (x.toNat : Int) = x := by simp

section
variable (a b : BitVec 32) (c d : BitVec 64) (e f : BitVec 8)
theorem x32 : evBits .xor .u32 a.toNat b.toNat = (a ^^^ b).toNat := by
  have h := (a ^^^ b).isLt
  show IntKind.u32.wrap ((BitVec.ofInt 32 (a.toNat : Int) ^^^ BitVec.ofInt 32 (b.toNat : Int)).toNat : Int) = _
  rw [ofInt_bv, ofInt_bv, IntKind.wrap_u32]; omega
theorem x64 : evBits .xor .u64 c.toNat d.toNat = (c ^^^ d).toNat := by
  have h := (c ^^^ d).isLt
  show IntKind.u64.wrap ((BitVec.ofInt 64 (c.toNat : Int) ^^^ BitVec.ofInt 64 (d.toNat : Int)).toNat : Int) = _
  rw [ofInt_bv, ofInt_bv, IntKind.wrap_u64]; omega
theorem x8 : evBits .xor .u8 e.toNat f.toNat = (e ^^^ f).toNat := by
  have h := (e ^^^ f).isLt
  show IntKind.u8.wrap ((BitVec.ofInt 8 (e.toNat : Int) ^^^ BitVec.ofInt 8 (f.toNat : Int)).toNat : Int) = _
  rw [ofInt_bv, ofInt_bv, IntKind.wrap_u8]; omega
theorem o32 : evBits .or .u32 a.toNat b.toNat = (a ||| b).toNat := by
  have h := (a ||| b).isLt
  show IntKind.u32.wrap ((BitVec.ofInt 32 (a.toNat : Int) ||| BitVec.ofInt 32 (b.toNat : Int)).toNat : Int) = _
  rw [ofInt_bv, ofInt_bv, IntKind.wrap_u32]; omega
theorem o64 : evBits .or .u64 c.toNat d.toNat = (c ||| d).toNat := by
  have h := (c ||| d).isLt
  show IntKind.u64.wrap ((BitVec.ofInt 64 (c.toNat : Int) ||| BitVec.ofInt 64 (d.toNat : Int)).toNat : Int) = _
  rw [ofInt_bv, ofInt_bv, IntKind.wrap_u64]; omega
theorem o8 : evBits .or .u8 e.toNat f.toNat = (e ||| f).toNat := by
  have h := (e ||| f).isLt
  show IntKind.u8.wrap ((BitVec.ofInt 8 (e.toNat : Int) ||| BitVec.ofInt 8 (f.toNat : Int)).toNat : Int) = _
  rw [ofInt_bv, ofInt_bv, IntKind.wrap_u8]; omega
theorem n32 : evBits .and .u32 a.toNat b.toNat = (a &&& b).toNat := by
  have h := (a &&& b).isLt
  show IntKind.u32.wrap ((BitVec.ofInt 32 (a.toNat : Int) &&& BitVec.ofInt 32 (b.toNat : Int)).toNat : Int) = _
  rw [ofInt_bv, ofInt_bv, IntKind.wrap_u32]; omega
theorem n64 : evBits .and .u64 c.toNat d.toNat = (c &&& d).toNat := by
  have h := (c &&& d).isLt
  show IntKind.u64.wrap ((BitVec.ofInt 64 (c.toNat : Int) &&& BitVec.ofInt 64 (d.toNat : Int)).toNat : Int) = _
  rw [ofInt_bv, ofInt_bv, IntKind.wrap_u64]; omega
theorem n8 : evBits .and .u8 e.toNat f.toNat = (e &&& f).toNat := by
  have h := (e &&& f).isLt
  show IntKind.u8.wrap ((BitVec.ofInt 8 (e.toNat : Int) &&& BitVec.ofInt 8 (f.toNat : Int)).toNat : Int) = _
  rw [ofInt_bv, ofInt_bv, IntKind.wrap_u8]; omega
theorem sl32 (n : Nat) : IntKind.u32.wrap ((a.toNat : Int) * 2 ^ min n IntKind.u32.bits) = (a <<< n).toNat := by
  show IntKind.u32.wrap ((a.toNat : Int) * 2 ^ min n 32) = _
  rw [IntKind.wrap_u32]
  by_cases h : n ≤ 32
  · rw [Nat.min_eq_left h]
    simp only [BitVec.toNat_shiftLeft, Nat.shiftLeft_eq]
    have : ((a.toNat : Int) * 2 ^ n) = ((a.toNat * 2 ^ n : Nat) : Int) := by simp
    rw [this]; omega
  · rw [Nat.min_eq_right (by omega), BitVec.shiftLeft_eq_zero (by omega)]
    have : (2 : Int) ^ 32 = 4294967296 := by decide
    rw [this]; simp
theorem sl64 (n : Nat) : IntKind.u64.wrap ((c.toNat : Int) * 2 ^ min n IntKind.u64.bits) = (c <<< n).toNat := by
  show IntKind.u64.wrap ((c.toNat : Int) * 2 ^ min n 64) = _
  rw [IntKind.wrap_u64]
  by_cases h : n ≤ 64
  · rw [Nat.min_eq_left h]
    simp only [BitVec.toNat_shiftLeft, Nat.shiftLeft_eq]
    have : ((c.toNat : Int) * 2 ^ n) = ((c.toNat * 2 ^ n : Nat) : Int) := by simp
    rw [this]; omega
  · rw [Nat.min_eq_right (by omega), BitVec.shiftLeft_eq_zero (by omega)]
    have : (2 : Int) ^ 64 = 18446744073709551616 := by decide
    rw [this]; simp
theorem sl8 (n : Nat) : IntKind.u8.wrap ((e.toNat : Int) * 2 ^ min n IntKind.u8.bits) = (e <<< n).toNat := by
  show IntKind.u8.wrap ((e.toNat : Int) * 2 ^ min n 8) = _
  rw [IntKind.wrap_u8]
  by_cases h : n ≤ 8
  · rw [Nat.min_eq_left h]
    simp only [BitVec.toNat_shiftLeft, Nat.shiftLeft_eq]
    have : ((e.toNat : Int) * 2 ^ n) = ((e.toNat * 2 ^ n : Nat) : Int) := by simp
    rw [this]; omega
  · rw [Nat.min_eq_right (by omega), BitVec.shiftLeft_eq_zero (by omega)]
    have : (2 : Int) ^ 8 = 256 := by decide
    rw [this]; simp
theorem fdiv_nat (x n : Nat) : ((x : Int).fdiv (2 ^ n)) = ((x >>> n : Nat) : Int) := by
  rw [Nat.shiftRight_eq_div_pow, Int.fdiv_eq_ediv_of_nonneg _ (by exact_mod_cast Nat.zero_le _)]
  simp
theorem sr32 (n : Nat) : ((a.toNat : Int).fdiv (2 ^ min n IntKind.u32.bits)) = (a >>> n).toNat := by
  show ((a.toNat : Int).fdiv (2 ^ min n 32)) = _
  rw [fdiv_nat]
  by_cases h : n ≤ 32
  · rw [Nat.min_eq_left h]; simp
  · rw [Nat.min_eq_right (by omega), BitVec.ushiftRight_eq_zero (by omega), Nat.shiftRight_eq_div_pow, Nat.div_eq_of_lt a.isLt]; simp
theorem sr64 (n : Nat) : ((c.toNat : Int).fdiv (2 ^ min n IntKind.u64.bits)) = (c >>> n).toNat := by
  show ((c.toNat : Int).fdiv (2 ^ min n 64)) = _
  rw [fdiv_nat]
  by_cases h : n ≤ 64
  · rw [Nat.min_eq_left h]; simp
  · rw [Nat.min_eq_right (by omega), BitVec.ushiftRight_eq_zero (by omega), Nat.shiftRight_eq_div_pow, Nat.div_eq_of_lt c.isLt]; simp
theorem sr8 (n : Nat) : ((e.toNat : Int).fdiv (2 ^ min n IntKind.u8.bits)) = (e >>> n).toNat := by
  show ((e.toNat : Int).fdiv (2 ^ min n 8)) = _
  rw [fdiv_nat]
  by_cases h : n ≤ 8
  · rw [Nat.min_eq_left h]; simp
  · rw [Nat.min_eq_right (by omega), BitVec.ushiftRight_eq_zero (by omega), Nat.shiftRight_eq_div_pow, Nat.div_eq_of_lt e.isLt]; simp
theorem m32 : IntKind.u32.wrap ((a.toNat : Int) * b.toNat) = (a * b).toNat := by
  rw [IntKind.wrap_u32, BitVec.toNat_mul, ← Int.natCast_mul]; omega
theorem m64 : IntKind.u64.wrap ((c.toNat : Int) * d.toNat) = (c * d).toNat := by
  rw [IntKind.wrap_u64, BitVec.toNat_mul, ← Int.natCast_mul]; omega
theorem a32 : IntKind.u32.wrap ((a.toNat : Int) + b.toNat) = (a + b).toNat := by
  rw [IntKind.wrap_u32, BitVec.toNat_add]; omega
theorem a64 : IntKind.u64.wrap ((c.toNat : Int) + d.toNat) = (c + d).toNat := by
  rw [IntKind.wrap_u64, BitVec.toNat_add]; omega
theorem c8_32 : IntKind.u32.wrap (e.toNat : Int) = (e.setWidth 32).toNat := by
  rw [IntKind.wrap_u32, BitVec.toNat_setWidth]; omega
theorem c8_64 : IntKind.u64.wrap (e.toNat : Int) = (e.setWidth 64).toNat := by
  rw [IntKind.wrap_u64, BitVec.toNat_setWidth]; omega
theorem c64_8 : IntKind.u8.wrap (c.toNat : Int) = (c.setWidth 8).toNat := by
  rw [IntKind.wrap_u8, BitVec.toNat_setWidth]; omega
theorem c32_8 : IntKind.u8.wrap (a.toNat : Int) = (a.setWidth 8).toNat := by
  rw [IntKind.wrap_u8, BitVec.toNat_setWidth]; omega
theorem c64_32 : IntKind.u32.wrap (c.toNat : Int) = (c.setWidth 32).toNat := by
  rw [IntKind.wrap_u32, BitVec.toNat_setWidth]; omega
theorem c32_64 : IntKind.u64.wrap (a.toNat : Int) = (a.setWidth 64).toNat := by
  rw [IntKind.wrap_u64, BitVec.toNat_setWidth]; omega
theorem not32 : evBits .xor .u32 (if IntKind.u32.signed then -1 else IntKind.u32.max) a.toNat = (~~~ a).toNat := by
  have e1 : (if IntKind.u32.signed then (-1 : Int) else IntKind.u32.max) = ((BitVec.allOnes 32).toNat : Nat) := by decide
  rw [e1, x32, BitVec.allOnes_xor]
theorem not64 : evBits .xor .u64 (if IntKind.u64.signed then -1 else IntKind.u64.max) c.toNat = (~~~ c).toNat := by
  have e1 : (if IntKind.u64.signed then (-1 : Int) else IntKind.u64.max) = ((BitVec.allOnes 64).toNat : Nat) := by decide
  rw [e1, x64, BitVec.allOnes_xor]
theorem cb_32 (x : UInt8) : IntKind.u32.wrap (x.toNat : Int) = (x.toBitVec.setWidth 32).toNat := c8_32 _
theorem cb_64 (x : UInt8) : IntKind.u64.wrap (x.toNat : Int) = (x.toBitVec.setWidth 64).toNat := c8_64 _
end

/-! ## texts as lists -/
theorem bl_toList (l : List UInt8) : (⟨⟨l⟩⟩ : ByteArray).toList = l := by
  rw [ByteArray.toList_eq]
theorem bl_size (l : List UInt8) : (⟨⟨l⟩⟩ : ByteArray).size = l.length := rfl
theorem bl_app (l m : List UInt8) : (⟨⟨l⟩⟩ : ByteArray) ++ ⟨⟨m⟩⟩ = ⟨⟨l ++ m⟩⟩ := by
  apply ByteArray.ext; simp
theorem bl_extract (l : List UInt8) (i j : Nat) : (⟨⟨l⟩⟩ : ByteArray).extract i j = ⟨⟨(l.take j).drop i⟩⟩ := by
  apply ByteArray.ext; simp [List.drop_take]
end Go.AM
