/- Words of 8, 32 and 64 bits as the model's integers: sums, exclusive ors, turns. No condition. -/
import Derived.WalkKit
namespace Go.Proofs.Ytncoghoeeefjhaa
open Go.RowKit

theorem u8_lt (x : UInt8) : x.toNat < 256 := x.toNat_lt
theorem u32_lt (x : UInt32) : x.toNat < 4294967296 := x.toNat_lt
theorem u64_lt (x : UInt64) : x.toNat < 18446744073709551616 := x.toNat_lt

theorem ofInt_nat (n a : Nat) (h : a < 2 ^ n) : (BitVec.ofInt n (a : Int)).toNat = a := by
  rw [BitVec.ofInt_natCast, BitVec.toNat_ofNat]; exact Nat.mod_eq_of_lt h

theorem u32_wrap (n : Int) : IntKind.u32.wrap n = n % 4294967296 := IntKind.wrap_u32 n
theorem u8_wrap (n : Int) : IntKind.u8.wrap n = n % 256 := IntKind.wrap_u8 n

theorem u32_bits_xor (x y : UInt32) : bits .xor .u32 (x.toNat : Int) (y.toNat : Int) = ((x ^^^ y).toNat : Int) := by
  show IntKind.u32.wrap ((BitVec.ofInt 32 (x.toNat : Int) ^^^ BitVec.ofInt 32 (y.toNat : Int)).toNat : Int) = _
  rw [BitVec.toNat_xor, ofInt_nat 32 _ x.toNat_lt, ofInt_nat 32 _ y.toNat_lt, u32_wrap, UInt32.toNat_xor]
  have : x.toNat ^^^ y.toNat < 2 ^ 32 := Nat.xor_lt_two_pow x.toNat_lt y.toNat_lt
  omega
theorem u32_bits_or (x y : UInt32) : bits .or .u32 (x.toNat : Int) (y.toNat : Int) = ((x ||| y).toNat : Int) := by
  show IntKind.u32.wrap ((BitVec.ofInt 32 (x.toNat : Int) ||| BitVec.ofInt 32 (y.toNat : Int)).toNat : Int) = _
  rw [BitVec.toNat_or, ofInt_nat 32 _ x.toNat_lt, ofInt_nat 32 _ y.toNat_lt, u32_wrap, UInt32.toNat_or]
  have : x.toNat ||| y.toNat < 2 ^ 32 := Nat.or_lt_two_pow x.toNat_lt y.toNat_lt
  omega
theorem u8_bits_xor (x y : UInt8) : bits .xor .u8 (x.toNat : Int) (y.toNat : Int) = ((x ^^^ y).toNat : Int) := by
  show IntKind.u8.wrap ((BitVec.ofInt 8 (x.toNat : Int) ^^^ BitVec.ofInt 8 (y.toNat : Int)).toNat : Int) = _
  rw [BitVec.toNat_xor, ofInt_nat 8 _ x.toNat_lt, ofInt_nat 8 _ y.toNat_lt, u8_wrap, UInt8.toNat_xor]
  have : x.toNat ^^^ y.toNat < 2 ^ 8 := Nat.xor_lt_two_pow x.toNat_lt y.toNat_lt
  omega
theorem u32_add (x y : UInt32) : ((x.toNat : Int) + (y.toNat : Int)) % 4294967296 = ((x + y).toNat : Int) := by
  rw [UInt32.toNat_add]; omega

/-- sums and exclusive ors that simp leaves alone -/
def add32 (x y : UInt32) : UInt32 := x + y
def xor32 (x y : UInt32) : UInt32 := x ^^^ y
def xor8 (x y : UInt8) : UInt8 := x ^^^ y
theorem w_add32 (x y : UInt32) : IntKind.u32.wrap ((x.toNat : Int) + (y.toNat : Int)) = ((add32 x y).toNat : Int) := by
  rw [u32_wrap, u32_add]; rfl
theorem m_add32 (x y : UInt32) : ((x.toNat : Int) + (y.toNat : Int)) % 4294967296 = ((add32 x y).toNat : Int) := u32_add x y
theorem w_xor32 (x y : UInt32) : bits .xor .u32 (x.toNat : Int) (y.toNat : Int) = ((xor32 x y).toNat : Int) := u32_bits_xor x y
theorem w_xor8 (x y : UInt8) : bits .xor .u8 (x.toNat : Int) (y.toNat : Int) = ((xor8 x y).toNat : Int) := u8_bits_xor x y
theorem ret_int {k : IntKind} {a b : Int} (h : a = b) : Ending.returned (.int k a) = .returned (.int k b) := by rw [h]

/-- turned to the left -/
def rotl (x : UInt32) (n : UInt32) : UInt32 := (x <<< n) ||| (x >>> (32 - n))

theorem shl_toNat (x s : UInt32) (hs : s.toNat < 32) : ((x <<< s).toNat : Int) = ((x.toNat : Int) * 2 ^ s.toNat) % 4294967296 := by
  rw [UInt32.toNat_shiftLeft, Nat.mod_eq_of_lt hs, Nat.shiftLeft_eq]
  rw [Int.natCast_emod, Int.natCast_mul, Int.natCast_pow]
  rfl
theorem shr_toNat (x s : UInt32) (hs : s.toNat < 32) : ((x >>> s).toNat : Int) = (x.toNat : Int) / 2 ^ s.toNat := by
  rw [UInt32.toNat_shiftRight, Nat.mod_eq_of_lt hs, Nat.shiftRight_eq_div_pow]
  rw [Int.natCast_ediv, Int.natCast_pow]
  rfl

theorem rot_nat (x s : UInt32) (m : Nat) (h0 : 0 < s.toNat) (hs : s.toNat < 32) (hm : m = 32 - s.toNat) :
    bits .or .u32 (((x.toNat : Int) * 2 ^ s.toNat) % 4294967296) ((x.toNat : Int) / 2 ^ m) = ((rotl x s).toNat : Int) := by
  have e : (32 - s).toNat = 32 - s.toNat := by
    rw [UInt32.toNat_sub_of_le]
    · rfl
    · rw [UInt32.le_iff_toNat_le]; show s.toNat ≤ 32; omega
  subst hm
  rw [← shl_toNat x s hs, ← e, ← shr_toNat x (32 - s) (by omega), u32_bits_or]
  rfl
end Go.Proofs.Ytncoghoeeefjhaa
